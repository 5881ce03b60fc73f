
/- Insert beside a reader: its steps in a world, also behind its end; what it keeps; how many steps it makes alone. -/
import Derived.Test.YtlpdhhhgckpcfaaGreatConcT
import Derived.Test.YtlpdhhhgckpcfaaGreatLaw11a
namespace Go.Proofs.YtlpdhhhgckpcfaaGreat
open Go.RowKit
set_option maxRecDepth 100000
section
variable {K : Know} {w : World} {F : List Comp} {b bf bm bc acc : Nat} {d : Cfg} {fr : InH} {fu : Pg} {L : List Cel} {s : InsS} {C : List Comp} {key : ByteArray} {f : FdS}
end
section
variable {d : Cfg} {L : List Cel} {t : List (List Nd)} {fr : InH} {fu : Pg} {s s' : InsS}
theorem insMm_cels (hd : d.Ok) (K : InsK d fr fu) (hL : CelsOk L) (h : InsI d L fr fu s) : CelsOk (insMm d L s) := by
  have hno2 := hd.no2
  obtain ⟨pc, tk, k, ps, sp, id, full⟩ := s
  match pc, h with
  | 0, h =>
    obtain ⟨_, _, _, a4, _⟩ := h
    obtain ⟨tp, seen, ok⟩ := tk
    simp only at a4
    show CelsOk (takeStep 4 d.no L ⟨tp, seen, ok⟩).2
    rcases a4 with ⟨rfl, rfl⟩ | ⟨rfl, rfl, b1, b2⟩
    · exact hL
    · unfold takeStep
      simp only
      split
      · exact CelsOk.put (L := L) (i := 4) (c := ⟨seen + 1, ⟨#[]⟩, 0⟩) hL ⟨by show 0 ≤ seen + 1; omega, by show seen + 1 < _; omega⟩
      · exact hL
  | 1, h =>
    obtain ⟨_, _, _, hid, hps, hk, _⟩ := h
    simp only at hps hk hid
    show CelsOk (match ps[k]? with | some pt => putC L pt.i pt.c | none => L)
    rw [List.getElem?_eq_getElem hk]
    refine hL.put ?_
    have hm : ps[k] ∈ ps := List.getElem_mem hk
    generalize ps[k] = q at hm
    rw [hps] at hm
    rcases List.mem_cons.1 hm with rfl | hm
    · exact ⟨by show (0 : Int) ≤ ltLock 0; decide, by show ltLock 0 < (18446744073709551616 : Int); decide⟩
    · exact pgPts_cels hd (K.fok.right hd) q hm
  | 2, h =>
    obtain ⟨_, hsp, hw, hk, hn, _⟩ := h
    replace hk : k < ps.length := hk
    show CelsOk (match ps[k]? with | some pt => putC L pt.i pt.c | none => L)
    rw [List.getElem?_eq_getElem hk]
    refine hL.put (wrPs_cels hd K.hok ?_ hw _ (List.getElem_mem hk))
    cases sp with
    | false => exact K.fok.fit (hsp rfl)
    | true =>
      obtain ⟨_, hid, _⟩ := hn rfl
      have h1 : 1 ≤ id := hid.lo
      have h2 : id ≤ d.no := hid.hi
      exact K.fok.left (id := id) hd ⟨by omega, by omega⟩
  | n + 3, h => exact hL
/-- Insert alone in the memory: a number is left, nobody else takes one. -/
def InsAl (d : Cfg) (L : List Cel) (s : InsS) : Prop := s.full = false ∧ (s.pc = 0 → (getC L 4).n < d.no ∧ (s.tk.pc = 1 → s.tk.seen = (getC L 4).n))
/-- The steps that it still makes. -/
def insMs (fu : Pg) (s : InsS) : Nat := match s.pc with
  | 0 => (fu.sl.length + 5) + (fu.sl.length + 5) + (2 - s.tk.pc)
  | 1 => (s.ps.length - s.k) + (fu.sl.length + 5)
  | 2 => s.ps.length - s.k
  | _ => 0
theorem pgPts_len (d : Cfg) (id : Int) (pg : Pg) : (pgPts d id pg).length = pg.sl.length + 3 := by simp [pgPts, slPts_length]
theorem InsAl.step (hd : d.Ok) (hlen : (L.length : Int) = d.cells) (h : InsAl d L s) (hI : InsI d L fr fu s) (h2 : s.pc ≤ 2) (hn : InsNx d fr fu L s s') : InsAl d (insMm d L s) s' ∧ insMs fu s' < insMs fu s := by
  have hcl := cells_big hd
  obtain ⟨pc, tk, k, ps, sp, id, full⟩ := s
  simp only at h2
  obtain ⟨hf, h0⟩ := h
  simp only at hf h0
  subst hf
  rcases (by omega : pc = 0 ∨ pc = 1 ∨ pc = 2) with rfl | rfl | rfl
  · obtain ⟨a1, a2, a3, a4, _⟩ := hI
    obtain ⟨c3, c4⟩ := h0 rfl
    obtain ⟨tp, seen, ok⟩ := tk
    simp only at a4 c4
    rcases a4 with ⟨rfl, rfl⟩ | ⟨rfl, rfl, b1, b2⟩
    · have e1 : takeStep 4 d.no L ⟨0, seen, false⟩ = (⟨1, (getC L 4).n, false⟩, L) := by
        show ((⟨if d.no ≤ (getC L 4).n then 2 else 1, (getC L 4).n, false⟩ : TakeS), L) = _
        rw [if_neg (by omega)]
      have em : insMm d L ⟨0, ⟨0, seen, false⟩, k, ps, sp, id, false⟩ = L := congrArg Prod.snd e1
      rw [em]
      simp only [InsNx, e1] at hn
      rcases hn with ⟨_, rfl⟩ | ⟨q, _⟩ | ⟨q, _⟩
      · exact ⟨⟨rfl, fun _ => ⟨c3, fun _ => rfl⟩⟩, by show _ + (2 - 1) < _ + (2 - 0); omega⟩
      · omega
      · omega
    · have hsw : swapOk L 4 seen = true := by
        unfold swapOk
        rw [decide_eq_true (by omega), decide_eq_true (by omega), decide_eq_true (c4 rfl).symm]
        rfl
      have e1 : takeStep 4 d.no L ⟨1, seen, false⟩ = (⟨2, seen, true⟩, putC L 4 ⟨seen + 1, ⟨#[]⟩, 0⟩) := by
        show (if swapOk L 4 seen then _ else _) = _
        rw [if_pos hsw]
      simp only [InsNx, e1] at hn
      rcases hn with ⟨q, _⟩ | ⟨_, q, _⟩ | ⟨_, _, rfl⟩
      · omega
      · cases q
      · refine ⟨⟨rfl, fun q => (by cases q)⟩, ?_⟩
        show ((_ :: pgPts d (seen + 1) (splR fu)).length - 0) + (fu.sl.length + 5) < (fu.sl.length + 5) + (fu.sl.length + 5) + (2 - 1)
        rw [List.length_cons, pgPts_len]
        have : (splR fu).sl.length ≤ fu.sl.length := by
          show (fu.sl.drop _).length ≤ _
          rw [List.length_drop]; omega
        omega
  · obtain ⟨_, _, _, _, _, a6, _⟩ := hI
    simp only at a6
    rcases hn with ⟨c1, rfl⟩ | ⟨c1, ps', hw, rfl⟩
    · exact ⟨⟨rfl, fun q => (by cases q)⟩, by show (ps.length - (k + 1)) + _ < (ps.length - k) + _; omega⟩
    · refine ⟨⟨rfl, fun q => (by cases q)⟩, ?_⟩
      have hl := hw.len.2
      have : (splL fu id).sl.length ≤ fu.sl.length := by
        show (fu.sl.take _).length ≤ _
        rw [List.length_take]; omega
      show ps'.length - 0 < (ps.length - k) + (fu.sl.length + 5)
      simp only at hl
      omega
  · obtain ⟨_, _, _, a4, _⟩ := hI
    simp only at a4
    rcases hn with ⟨c1, rfl⟩ | ⟨c1, rfl⟩
    · exact ⟨⟨rfl, fun q => (by cases q)⟩, by show ps.length - (k + 1) < ps.length - k; omega⟩
    · exact ⟨⟨rfl, fun q => (by cases q)⟩, by show 0 < ps.length - k; omega⟩
end
end Go.Proofs.YtlpdhhhgckpcfaaGreat
