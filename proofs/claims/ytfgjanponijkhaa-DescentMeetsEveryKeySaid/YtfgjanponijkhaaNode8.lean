/- The steps of the reader of a node. -/
import Derived.Test.YtfgjanponijkhaaNode6
import Derived.Test.YtfgjanponijkhaaNode7
namespace Go.Proofs.Ytfgjanponijkhaa
open Go.RowKit
set_option maxRecDepth 100000

section
variable {K : Know} {w : World} {F : List Comp} {b bm bc : Nat} {L : List Cel} {acc : Nat} {va : Value} {d : Cfg} {id : Int} {s : RdS}

def rdAcc (p acc : Nat) : Nat := if 6 ≤ p then acc else acc + 1
theorem rdAcc_le (p acc : Nat) : rdAcc p acc ≤ acc + 1 := by unfold rdAcc; split <;> omega

theorem rd_run_of {s' : RdS} {f : FV} {acc' : Nat} (hf : Enters f.f) (hpc : rdPv b s.pc = some f) (hc : w.cell? ⟨b, 0, none⟩ = some (stV (rdPv b s.pc)))
    (hcall : Calls Try.prog f.f (f.x ++ #[.pointer (some ⟨bm, 0, none⟩)] ++ f.y) w fun e w1 => ∃ va', e = .returned (stV (rdPv b s'.pc)) ∧ St K w1 (blk b (.cells (rdCells (stV (rdPv b s.pc)) d id s'.pg va' s'.left (stV (rdTh b s'.t)) s'.word).toArray 161) :: slC va' s'.pg :: memC bm bc L acc' :: F)) :
    Calls Try.prog 103 #[.pointer (some ⟨b, 0, none⟩), .pointer (some ⟨bm, 0, none⟩)] w fun e w' => ∃ va', e = .returned (.bool (decide (6 ≤ s'.pc))) ∧ St K w' (rdC b d id va' s' :: slC va' s'.pg :: memC bm bc L acc' :: F) := by
  rw [hpc] at hc
  rw [← rdPv_none (b := b)]
  exact runStep_some (f := f) (o := rdPv b s'.pc) (tl := fun va' => (rdCells (stV (rdPv b s.pc)) d id s'.pg va' s'.left (stV (rdTh b s'.t)) s'.word).tail) (F' := fun va' => slC va' s'.pg :: memC bm bc L acc' :: F) hf hc hcall

theorem rdRun_st (hd : d.Ok) (hid : 0 ≤ id ∧ id < 18446744073709551616) (hL : CelsOk L) (ha : acc ≤ 1000000000000) (hok : s.Ok d) (hs : St K w (rdC b d id va s :: slC va s.pg :: memC bm bc L acc :: F)) :
    Calls Try.prog 103 #[.pointer (some ⟨b, 0, none⟩), .pointer (some ⟨bm, 0, none⟩)] w fun e w' => ∃ va', e = .returned (.bool (decide (6 ≤ (rdStep d id L s).pc))) ∧ St K w' (rdC b d id va' (rdStep d id L s) :: slC va' (rdStep d id L s).pg :: memC bm bc L (rdAcc s.pc acc) :: F) := by
  obtain ⟨pc, pg, left, word, t⟩ := s
  have h1 := hok.pc; have h2 := hok.word; have h3 := hok.len; have h4 := hok.th; have h5 := hok.left
  simp only at h1 h2 h3 h4 h5
  have hs' : St K w (blk b (.cells (rdCells (stV (rdPv b pc)) d id pg va left (stV (rdTh b t)) word).toArray 161) :: memC bm bc L acc :: slC va pg :: F) := hs.b2.b1
  have k0 : w.cell? ⟨b, 0, none⟩ = some (stV (rdPv b pc)) := hs'.k0 0
  have hfa := hd.fa2
  rcases (show pc = 0 ∨ pc = 1 ∨ pc = 2 ∨ pc = 3 ∨ pc = 4 ∨ pc = 5 ∨ pc = 6 by omega) with rfl | rfl | rfl | rfl | rfl | rfl | rfl
  · have q := open_st hd hid ha (hL (d.node id 0)) hs'
    cases hch : ltChg (getC L (d.node id 0)).n with
    | true =>
      rw [hch] at q
      have e : rdStep d id L ⟨0, pg, left, word, t⟩ = ⟨0, pg, left, (getC L (d.node id 0)).n, t⟩ := by simp only [rdStep]; rw [if_pos hch]
      rw [e]
      exact rd_run_of (s := ⟨0, pg, left, word, t⟩) (s' := ⟨0, pg, left, (getC L (d.node id 0)).n, t⟩) enters_open rfl k0 (q.mono fun e w1 ⟨he, h⟩ => ⟨va, he, h.b2.b1⟩)
    | false =>
      rw [hch] at q
      have e : rdStep d id L ⟨0, pg, left, word, t⟩ = ⟨1, pg, left, (getC L (d.node id 0)).n, true⟩ := by simp only [rdStep]; rw [if_neg (by simp [hch])]
      rw [e]
      exact rd_run_of (s := ⟨0, pg, left, word, t⟩) (s' := ⟨1, pg, left, (getC L (d.node id 0)).n, true⟩) enters_open rfl k0 (q.mono fun e w1 ⟨he, h⟩ => ⟨va, he, h.b2.b1⟩)
  · have q := head_st (th := rdTh b t) hd hid ha (hL (d.node id 1)) hs'
    exact rd_run_of (s := ⟨1, pg, left, word, t⟩) (s' := ⟨2, ⟨wrap64 (getC L (d.node id 1)).m, [], ⟨#[]⟩, false, 0⟩, leftOf d (getC L (d.node id 1)), word, t⟩) enters_head rfl k0 (q.mono fun e w1 ⟨he, h⟩ => ⟨.slice none 0 0, he, h.b2.tail.row_nil.b1⟩)
  · have q := high_st (th := rdTh b t) hd hid ha hs'
    exact rd_run_of (s := ⟨2, pg, left, word, t⟩) (s' := ⟨3, pg.high (getC L (d.node id 2)), left, word, t⟩) enters_high rfl k0 (q.mono fun e w1 ⟨he, h⟩ => ⟨va, he, h.b2.b1⟩)
  · obtain rfl : t = true := by simpa using h4
    have q := right_st (th := rdVal b) hd hid ha hs'
    rw [more_pv] at q
    exact rd_run_of (s := ⟨3, pg, left, word, true⟩) (s' := ⟨if left = 0 then 5 else 4, pg.right (getC L (d.node id 3)), left, word, true⟩) enters_right rfl k0 (q.mono fun e w1 ⟨he, h⟩ => ⟨va, he, h.b2.b1⟩)
  · obtain rfl : t = true := by simpa using h4
    have h3' : (pg.sl.length : Int) + left ≤ d.fa := by simpa using h3
    have q := slot_st (pg := pg) (th := rdVal b) hd hid ha (by omega) ⟨h5 rfl, by omega⟩ hs
    rw [more_pv] at q
    exact rd_run_of (s := ⟨4, pg, left, word, true⟩) (s' := ⟨if left - 1 = 0 then 5 else 4, pg.push (getC L (d.slot id pg.sl.length)), left - 1, word, true⟩) enters_slot rfl k0 (q.mono fun e w1 ⟨va', he, h⟩ => ⟨va', he, h⟩)
  · have q := validate_st hd hid ha (hL (d.node id 0)) h2 hs'
    cases hsm : (ltUnlock word == ltUnlock (getC L (d.node id 0)).n) with
    | true =>
      rw [hsm] at q
      have e : rdStep d id L ⟨5, pg, left, word, t⟩ = ⟨6, pg, left, word, t⟩ := by simp only [rdStep]; rw [if_pos hsm]
      rw [e]
      exact rd_run_of (s := ⟨5, pg, left, word, t⟩) (s' := ⟨6, pg, left, word, t⟩) enters_validate rfl k0 (q.mono fun e w1 ⟨he, h⟩ => ⟨va, he, h.b2.b1⟩)
    | false =>
      rw [hsm] at q
      have e : rdStep d id L ⟨5, pg, left, word, t⟩ = ⟨0, pg, left, word, t⟩ := by simp only [rdStep]; rw [if_neg (by simp [hsm])]
      rw [e]
      exact rd_run_of (s := ⟨5, pg, left, word, t⟩) (s' := ⟨0, pg, left, word, t⟩) enters_validate rfl k0 (q.mono fun e w1 ⟨he, h⟩ => ⟨va, he, h.b2.b1⟩)
  · exact (runStep_end_st hs k0).mono fun e w1 ⟨he, h⟩ => ⟨va, he, h⟩
end
end Go.Proofs.Ytfgjanponijkhaa
