/- The machines of layer 6 and the kit's memory, as parts of a world. -/
import Derived.Test.YtfoojallpmibfaaSt2
import Derived.Test.YtfoojallpmibfaaAlloc7
import Derived.Test.YtfoojallpmibfaaClock2
import Derived.Test.YtfoojallpmibfaaKit
namespace Go.Proofs.Ytfoojallpmibfaa
open Go.RowKit
set_option maxRecDepth 100000

section
variable {K : Know} {w w' : World} {c d : Comp} {cs F : List Comp}

/-- Parts that a callee has made. -/
theorem St.new {ms : List Comp} (hs : St K w cs) (hb : Below w.heap.size w w') (hok : ∀ c, c ∈ ms → c.ok w') (hf : ∀ b, b ∈ feet ms → w.heap.size ≤ b) (hn : (feet ms).Nodup) : St K w' (ms ++ cs) :=
  St.chg (ms := []) (ms' := ms) (F := cs) hs (Chg.of_below hb) hok (fun b h => .inr (hf b h)) hn

theorem memC_foot (bm bc : Nat) (L : List Cel) (acc : Nat) : (memC bm bc L acc).foot = [bm, bc] := rfl

theorem kitMemory_st {d : Cfg} (hd : d.Ok) (hs : St K w cs) : Calls Try.prog 59 #[.agg #[.int .i64 d.th, .int .i64 d.sn, .int .i64 d.no, .int .i64 d.ch, .int .i64 d.re, .int .i64 d.fa, .int .u64 d.cl]] w fun e w' => ∃ bm bc, e = .returned (.tuple #[.agg #[.int .i64 d.th, .int .i64 d.sn, .int .i64 d.no, .int .i64 d.ch, .int .i64 d.re, .int .i64 d.fa, .int .u64 d.cl], .pointer (some ⟨bm, 0, none⟩)]) ∧ St K w' (memC bm bc (startL d) 0 :: cs) := by
  refine (kitMemory_any d hd w).mono fun e w' ⟨bm, bc, he, hM, hb, h1, h2⟩ => ⟨bm, bc, he, ?_⟩
  refine hs.new (ms := [memC bm bc (startL d) 0]) hb (fun c hc => by simp at hc; subst hc; exact hM) (fun b hb => ?_) ?_
  · simp [feet, memC] at hb; omega
  · simp [feet, memC]; exact hM.ne

/-- clock.Allocate. -/
def allocC (ba bt : Nat) (lim : Int) (s : TakeS) : Comp where
  foot := [ba, bt]
  ok := fun w => AllocAt w ba bt lim s
  loc := fun w w' h k => ⟨by rw [h ba (by simp)]; exact k.ha, by unfold TakeAt; rw [h bt (by simp)]; exact k.ht⟩
  dom := fun w k b hb => by
    simp at hb
    rcases hb with rfl | rfl
    · exact blk_lt k.ha
    · exact blk_lt k.ht
theorem newAllocate_st {c : Cfg} (hs : St K w cs) : Calls Try.prog 61 #[.agg #[.int .i64 c.th, .int .i64 c.sn, .int .i64 c.no, .int .i64 c.ch, .int .i64 c.re, .int .i64 c.fa, .int .u64 c.cl]] w fun e w' => ∃ ba bt, e = .returned (.pointer (some ⟨ba, 0, none⟩)) ∧ St K w' (allocC ba bt c.cl ⟨0, 0, false⟩ :: cs) := by
  refine (newAllocate_any c w).mono fun e w' ⟨ba, bt, he, h1, h2, h3, hA, hb⟩ => ⟨ba, bt, he, ?_⟩
  refine hs.new (ms := [allocC ba bt c.cl ⟨0, 0, false⟩]) hb (fun c hc => by simp at hc; subst hc; exact hA) (fun b hb => ?_) ?_
  · simp [feet, allocC] at hb; omega
  · simp [feet, allocC]; exact h3
theorem allocStep_st {ba bt bm bc : Nat} {lim : Int} {L : List Cel} {acc : Nat} {s : TakeS} (hs : St K w (allocC ba bt lim s :: memC bm bc L acc :: F)) (ha : acc ≤ 1000000000000) (h1 : s.pc = 1 → 0 ≤ s.seen ∧ s.seen < 18446744073709551615) :
    Calls Try.prog 62 #[.pointer (some ⟨ba, 0, none⟩), .pointer (some ⟨bm, 0, none⟩)] w fun e w' => e = .returned (.bool (decide (2 ≤ (takeStep 1 lim L s).1.pc))) ∧ St K w' (allocC ba bt lim (takeStep 1 lim L s).1 :: memC bm bc (takeStep 1 lim L s).2 (if 2 ≤ s.pc then acc else acc + 1) :: F) := by
  have hnd := hs.nodup
  simp only [feet, List.flatMap_cons, allocC, memC, List.cons_append, List.nil_append, List.nodup_cons, List.mem_cons, not_or] at hnd
  obtain ⟨⟨n1, n2, n3, _⟩, ⟨n4, n5, _⟩, _⟩ := hnd
  refine (alloc_step w ba bt bm bc lim acc s L hs.head hs.mem1 n1 n4 n5 n2 n3 (by omega) (by omega) h1).mono fun e w' ⟨he, hT, hM, hg⟩ => ⟨he, ?_⟩
  refine hs.chg2 (hg.mono (by simp [allocC, memC])) hT ?_ rfl rfl
  show MemAt _ _ _ _ _
  by_cases h2 : 2 ≤ s.pc
  · rw [if_pos h2] at hM ⊢; exact hM
  · rw [if_neg h2] at hM ⊢; exact_mod_cast hM

/-- clock.Publish. -/
def pubC (b : Nat) (time : Int) (pc : Nat) : Comp := blk b (.cells #[pubPc b pc, .bool true, .int .i64 2, .int .u64 time] 103)
theorem newPublish_st {c : Cfg} {time : Int} (hs : St K w cs) : Calls Try.prog 64 #[.agg #[.int .i64 c.th, .int .i64 c.sn, .int .i64 c.no, .int .i64 c.ch, .int .i64 c.re, .int .i64 c.fa, .int .u64 c.cl], .int .u64 time] w fun e w' => ∃ b, e = .returned (.pointer (some ⟨b, 0, none⟩)) ∧ St K w' (pubC b time 0 :: cs) := by
  refine (newPublish_any c time w).mono fun e w' ⟨b, he, h1, hA, hb⟩ => ⟨b, he, ?_⟩
  exact hs.new (ms := [pubC b time 0]) hb (fun c hc => by simp at hc; subst hc; exact hA) (fun b' hb => by simp [feet, pubC, blk] at hb; omega) (by simp [feet, pubC, blk])
theorem pubStep_st {b bm bc : Nat} {time : Int} {L : List Cel} {acc pc : Nat} (hs : St K w (pubC b time pc :: memC bm bc L acc :: F)) (ha : acc ≤ 1000000000000) (ht : IntKind.u64.wrap (time - 1) = time - 1) :
    Calls Try.prog 65 #[.pointer (some ⟨b, 0, none⟩), .pointer (some ⟨bm, 0, none⟩)] w fun e w' => e = .returned (.bool (decide (2 ≤ (pubStep 2 time L pc).1))) ∧ St K w' (pubC b time (pubStep 2 time L pc).1 :: memC bm bc (pubStep 2 time L pc).2 (if 2 ≤ pc then acc else acc + 1) :: F) := by
  have hne := St.ne_mem (F := F) hs
  refine (pub_step w b bm bc 2 time acc pc L hs.head hs.mem1 hne.1 hne.2 (by omega) (by omega) ht).mono fun e w' ⟨he, hT, hM, hg⟩ => ⟨he, ?_⟩
  refine hs.chg2 (by simpa [pubC, blk, memC] using hg) hT ?_ rfl rfl
  show MemAt _ _ _ _ _
  by_cases h2 : 2 ≤ pc
  · rw [if_pos h2] at hM ⊢; exact hM
  · rw [if_neg h2] at hM ⊢; exact_mod_cast hM

/-- clock.Now. -/
def nowC (bt bl bn : Nat) (c : Cfg) (time : Int) (pc : Nat) : Comp where
  foot := [bt, bl, bn]
  ok := fun w => NowAt w bt bl bn c time pc
  loc := fun w w' h k => ⟨by rw [h bt (by simp)]; exact k.ht, by rw [h bl (by simp)]; exact k.hl, by rw [h bn (by simp)]; exact k.hn⟩
  dom := fun w k b hb => by
    simp at hb
    rcases hb with rfl | rfl | rfl
    · exact blk_lt k.ht
    · exact blk_lt k.hl
    · exact blk_lt k.hn
theorem newNow_st {c : Cfg} (hs : St K w cs) : Calls Try.prog 67 #[.agg #[.int .i64 c.th, .int .i64 c.sn, .int .i64 c.no, .int .i64 c.ch, .int .i64 c.re, .int .i64 c.fa, .int .u64 c.cl]] w fun e w' => ∃ bt bl bn, e = .returned (.pointer (some ⟨bt, 0, none⟩)) ∧ St K w' (nowC bt bl bn c 0 0 :: cs) := by
  refine (newNow_any c w).mono fun e w' ⟨bt, bl, bn, he, h1, h2, h3, hA, hb⟩ => ⟨bt, bl, bn, he, ?_⟩
  refine hs.new (ms := [nowC bt bl bn c 0 0]) hb (fun c hc => by simp at hc; subst hc; exact hA) (fun b hb => by simp [feet, nowC] at hb; omega) ?_
  have d1 : bt ≠ bl := blk_ne hA.ht hA.hl (by decide)
  have d2 : bt ≠ bn := blk_ne hA.ht hA.hn (by decide)
  have d3 : bl ≠ bn := blk_ne hA.hl hA.hn (by decide)
  simp [feet, nowC, d1, d2, d3]
theorem nowStep0_st {bt bl bn bm bc : Nat} {c : Cfg} {time : Int} {L : List Cel} {acc : Nat} (hs : St K w (nowC bt bl bn c time 0 :: memC bm bc L acc :: F)) (ha : acc ≤ 1000000000000) :
    Calls Try.prog 69 #[.pointer (some ⟨bt, 0, none⟩), .pointer (some ⟨bm, 0, none⟩)] w fun e w' => e = .returned (.bool true) ∧ St K w' (nowC bt bl bn c (getC L 2).n 1 :: memC bm bc L (acc + 1) :: F) := by
  have hnd := hs.nodup
  simp only [feet, List.flatMap_cons, nowC, memC, List.cons_append, List.nil_append, List.nodup_cons, List.mem_cons, not_or] at hnd
  obtain ⟨⟨n1, n2, n3, n4, _⟩, ⟨n5, n6, n7, _⟩, ⟨n8, n9, _⟩, _⟩ := hnd
  refine (now_step0 w bt bl bn bm bc c time acc L hs.head hs.mem1 n3 n4 n8 n6 (Ne.symm n1) (Ne.symm n2) (by omega) (by omega)).mono fun e w' ⟨he, hT, hM, hg⟩ => ⟨he, ?_⟩
  refine hs.chg2 (hg.mono (by simp [nowC, memC])) hT ?_ rfl rfl
  show MemAt _ _ _ _ _
  exact_mod_cast hM
theorem nowStep1_st {bt bl bn bm : Nat} {c : Cfg} {time : Int} (hN : NowAt w bt bl bn c time 1) :
    Calls Try.prog 69 #[.pointer (some ⟨bt, 0, none⟩), .pointer (some ⟨bm, 0, none⟩)] w fun e w' => e = .returned (.bool true) ∧ w = w' := now_step1 w bt bl bn bm c time hN
end

/-- What the fresh memory of the clock laws holds at the clock's cells. -/
theorem kitL_1 (n cl : Int) (h : (kitC n cl).Ok) : (getC (startL (kitC n cl)) 1) = Cel.zero ∧ (getC (startL (kitC n cl)) 2) = Cel.zero ∧ 4 < (startL (kitC n cl)).length := by
  obtain ⟨h1, h2, h3⟩ := start_cells (kitC n cl) h
  have e1 := h3 1 (by omega)
  have e2 := h3 2 (by omega)
  rw [if_neg (by omega), if_neg (by omega), if_neg (by omega)] at e1 e2
  refine ⟨e1, e2, ?_⟩
  rw [h1]
  have h4 := h.A_bd
  have h5 := h.B_bd
  have h6 := h.C_bd
  have h7 := h.cells_bd
  omega
end Go.Proofs.Ytfoojallpmibfaa
