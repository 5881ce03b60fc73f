
/- blinktreelaw13's awake. -/
import Derived.Test.YtlpdhhhgckpcfaaGreatInsLaw
namespace Go.Proofs.YtlpdhhhgckpcfaaGreat
open Go.RowKit
set_option maxRecDepth 100000
/-- awake's page. -/
def pgA : Pg := ⟨0, [⟨⟨#[97]⟩, 1⟩, ⟨⟨#[98]⟩, 2⟩, ⟨⟨#[99]⟩, 3⟩, ⟨⟨#[100]⟩, 4⟩], ⟨#[]⟩, true, 0⟩
def frA : InH := ⟨1, ltLock 0, pgA⟩
def fuA : Pg := insPg pgA ⟨#[101]⟩ 5
theorem frA_ok {d : Cfg} (hd : d.Ok) : frA.Ok d := by
  have h1 := hd.no1
  have h2 := hd.fa1
  refine ⟨⟨by decide, h1⟩, by decide, ⟨h2, by decide, by decide, by decide, by decide, by decide⟩, by decide⟩
theorem fuA_ok {d : Cfg} (hd : d.Ok) : FuOk d frA fuA := FuOk.ins (frA_ok hd).pg (by decide) (by decide) (by decide)
theorem fuA_len : fuA.sl.length = 5 := insSl_length _ _ _
theorem pgA_asc : Asc pgA.sl := by simp [pgA, Asc, klt, ByteArray.toList_eq, Op.bytesLess]
theorem pgA_no : decide (loK pgA.sl ⟨#[101]⟩ < hiK pgA.sl ⟨#[101]⟩) = false := by simp [pgA, loK, hiK, klt, ByteArray.toList_eq, Op.bytesLess]
section
variable {K : Know} {w : World} {cs : List Comp}
set_option maxHeartbeats 4000000 in
theorem awake13_st (hs : St K w cs) : Calls Tryz.prog 45 #[] w fun e w' => e = .returned (.bool true) ∧ St K w' cs := by
  obtain ⟨d, hd, hfa, hno, Q1, Q2⟩ : ∃ d : Cfg, Hid d.Ok ∧ Hid (d.fa = 4) ∧ Hid (d.no = 100) ∧ Hid (∀ w, Calls Tryz.prog 12 #[.int .i64 1, .int .i64 0] w fun e w' => e = .returned (.agg #[.int .i64 d.th, .int .i64 d.sn, .int .i64 d.no, .int .i64 d.ch, .int .i64 d.re, .int .i64 d.fa, .int .u64 d.cl]) ∧ Below w.heap.size w w') ∧ Hid (∀ w K cs, St K w cs → Calls Tryz.prog 13 #[.agg #[.int .i64 d.th, .int .i64 d.sn, .int .i64 d.no, .int .i64 d.ch, .int .i64 d.re, .int .i64 d.fa, .int .u64 d.cl]] w fun e w'' => ∃ bm bc, e = .returned (.tuple #[.agg #[.int .i64 d.th, .int .i64 d.sn, .int .i64 d.no, .int .i64 d.ch, .int .i64 d.re, .int .i64 d.fa, .int .u64 d.cl], (.pointer (some ⟨bm, 0, none⟩))]) ∧ St K w'' (memC bm bc (startL d) 0 :: cs)) :=
    ⟨kitC 1 4 1000, Lib.hid (kit8_ok 0), Lib.hid rfl, Lib.hid rfl, Lib.hid (fun w => kitConfig_any 1 0 w), Lib.hid (fun w K cs hs => kitMemory_st (kit8_ok 0) hs)⟩
  go_enter Tryz.func45, Tryz.ntmps45
  go_wp2_with fail
  refine (calls_same hs (Q1.out _)).mono ?_
  clear hs
  rintro e w1 ⟨rfl, hs⟩
  obtain ⟨b1, hb1⟩ : ∃ b1, b1 = w1.heap.size := ⟨_, rfl⟩
  have hs := hs.made (.cells #[.int .i64 (d).th, .int .i64 (d).sn, .int .i64 (d).no, .int .i64 (d).ch, .int .i64 (d).re, .int .i64 (d).fa, .int .u64 (d).cl] 26)
  rw [← hb1] at hs
  have Hs := Lib.hid hs
  clear hs
  go_wp2_with fail
  rw [← hb1]
  clear hb1
  refine (Q2.out _ _ _ Hs.out).mono ?_
  clear Hs
  rintro e w2 ⟨bm, bc, rfl, hs⟩
  have hs := hs.made (.cells #[.int .i64 (d).th, .int .i64 (d).sn, .int .i64 (d).no, .int .i64 (d).ch, .int .i64 (d).re, .int .i64 (d).fa, .int .u64 (d).cl] 29)
  obtain ⟨b2, hb2⟩ : ∃ b2, b2 = w2.heap.size := ⟨_, rfl⟩
  rw [← hb2] at hs
  go_upto_region 5 with (fail)
  rw [← hb2]
  clear hb2
  refine wp_ck hs ?_
  clear hs
  intro w3 hs
  have hs := (hs.made (.cells #[.string ⟨#[97]⟩, .int .u64 1, .string ⟨#[98]⟩, .int .u64 2, .string ⟨#[99]⟩, .int .u64 3, .string ⟨#[100]⟩, .int .u64 4] 69))
  obtain ⟨b3, hb3⟩ : ∃ b3, b3 = w3.heap.size := ⟨_, rfl⟩
  have hs := hs.made (.cells #[.int .i64 (pgA).lev, (.slice (some ⟨b3, 0, none⟩) pgA.sl.length 4), .string (pgA).hi, .bool (pgA).la, .int .u64 (pgA).ri] 43)
  simp only [World.size_alloc] at hs
  rw [← hb3] at hs
  go_upto_region 6 with (fail)
  rw [← hb3]
  clear hb3
  have hs := (hs.b1.row_lit (n := 4) (size := 2) (xs := slRow pgA.sl) rfl (by decide))
  refine wp_ck hs ?_
  clear hs
  intro w4 hs
  have hs : St K w4 (rowC (.slice (some ⟨b3, 0, none⟩) pgA.sl.length 4) 69 2 pgA.sl.length (slRow pgA.sl) :: blk (b3 + 1) (.cells #[.int .i64 (pgA).lev, (.slice (some ⟨b3, 0, none⟩) pgA.sl.length 4), .string (pgA).hi, .bool (pgA).la, .int .u64 (pgA).ri] 43) :: blk b2 (.cells #[.int .i64 (d).th, .int .i64 (d).sn, .int .i64 (d).no, .int .i64 (d).ch, .int .i64 (d).re, .int .i64 (d).fa, .int .u64 (d).cl] 29) :: memC bm bc (startL d) 0 :: blk b1 (.cells #[.int .i64 (d).th, .int .i64 (d).sn, .int .i64 (d).no, .int .i64 (d).ch, .int .i64 (d).re, .int .i64 (d).fa, .int .u64 (d).cl] 26) :: cs) := hs
  have hs : St K w4 (memC bm bc (startL d) 0 :: rowC (.slice (some ⟨b3, 0, none⟩) pgA.sl.length 4) 69 2 pgA.sl.length (slRow pgA.sl) :: blk (b3 + 1) (.cells #[.int .i64 (pgA).lev, (.slice (some ⟨b3, 0, none⟩) pgA.sl.length 4), .string (pgA).hi, .bool (pgA).la, .int .u64 (pgA).ri] 43) :: blk b2 (.cells #[.int .i64 (d).th, .int .i64 (d).sn, .int .i64 (d).no, .int .i64 (d).ch, .int .i64 (d).re, .int .i64 (d).fa, .int .u64 (d).cl] 29) :: blk b1 (.cells #[.int .i64 (d).th, .int .i64 (d).sn, .int .i64 (d).no, .int .i64 (d).ch, .int .i64 (d).re, .int .i64 (d).fa, .int .u64 (d).cl] 26) :: cs) := hs.re [3, 0, 1, 2, 4] rfl
  have kp := hs.k2
  have kl := hs.tail.k2
  have kc := hs.tail.tail.k2
  obtain ⟨C1, C2, C3⟩ := start_cells d hd.out
  obtain ⟨L0, hL0⟩ : ∃ L0, L0 = startL d := ⟨_, rfl⟩
  rw [← hL0] at hs C1 C3
  have Hstart : Hid (L0.length = d.cells.toNat ∧ (getC L0 4).n = 1) := Lib.hid ⟨C1, by rw [C3 4 (by omega), if_neg (by omega), if_pos rfl]⟩
  clear C1 C2 C3 hL0
  have q := kitPut_st (pg := pgA) (id := 1) hd.out (by decide) (by decide) (by have := hfa.out; show (4 : Int) ≤ d.fa; omega) hs
  have Q := Lib.hid q
  clear q hs
  go_wp2_with fail
  refine (Q.out).mono ?_
  clear Q kp kl kc
  rintro e w5 ⟨rfl, hs⟩
  have kc := hs.tail.tail.k2
  go_wp2_with fail
  refine (calls_same hs (refNode_any d hd.out 1 0 (by decide) (by decide) (by decide) (by have := hfa.out; omega) _)).mono ?_
  clear hs kc
  rintro e w6 ⟨rfl, hs⟩
  go_wp2_with fail
  refine (ltLock_any 0 (by decide) (by decide) _).mono ?_
  rintro e w7 ⟨rfl, rfl⟩
  go_wp2_with fail
  refine (poke_st (i := d.node 1 0) (c := ⟨ltLock 0, ⟨#[]⟩, 0⟩) hs).mono ?_
  clear hs
  rintro e w8 ⟨rfl, hs⟩
  go_upto_region 8 with (fail)
  have hL1 : 0 ≤ (getC (putC (putPg d 1 pgA L0) (d.node 1 0) ⟨ltLock 0, ⟨#[]⟩, 0⟩) 4).n ∧ ((putC (putPg d 1 pgA L0) (d.node 1 0) ⟨ltLock 0, ⟨#[]⟩, 0⟩).length : Int) = d.cells ∧ newId (putC (putPg d 1 pgA L0) (d.node 1 0) ⟨ltLock 0, ⟨#[]⟩, 0⟩) = 2 := by
    have f1 := hd.out.fa1
    have hcb := cells_big hd.out
    have h4 : getC (putC (putPg d 1 pgA L0) (d.node 1 0) ⟨ltLock 0, ⟨#[]⟩, 0⟩) 4 = getC L0 4 := by
      rw [getC_ne (node_not4 hd.out (by decide) hd.out.no1 0 (by decide) (by omega)), putPg_other f1 (by show (4 : Int) ≤ d.fa; omega) (fun k k1 k2 => node_not4 hd.out (by decide) hd.out.no1 k (by omega) k2)]
    unfold newId
    rw [h4, putC_length, putPg_length, Hstart.out.1, Hstart.out.2]
    exact ⟨by decide, by omega, rfl⟩
  have HL1 := Lib.hid hL1
  clear hL1
  generalize putC (putPg d 1 pgA L0) (d.node 1 0) ⟨ltLock 0, ⟨#[]⟩, 0⟩ = L1 at *
  have Hs : Hid (St K w8 (slC (.slice (some ⟨b3, 0, none⟩) frA.pg.sl.length 4) frA.pg :: memC bm bc L1 0 :: blk (b3 + 1) (.cells #[.int .i64 (pgA).lev, (.slice (some ⟨b3, 0, none⟩) pgA.sl.length 4), .string (pgA).hi, .bool (pgA).la, .int .u64 (pgA).ri] 43) :: blk b2 (.cells #[.int .i64 (d).th, .int .i64 (d).sn, .int .i64 (d).no, .int .i64 (d).ch, .int .i64 (d).re, .int .i64 (d).fa, .int .u64 (d).cl] 29) :: blk b1 (.cells #[.int .i64 (d).th, .int .i64 (d).sn, .int .i64 (d).no, .int .i64 (d).ch, .int .i64 (d).re, .int .i64 (d).fa, .int .u64 (d).cl] 26) :: cs)) := Lib.hid hs.b1
  clear hs
  refine region_two [false, false, false, false, true, true] 4 5
    (fun W => St K W (slC (.slice (some ⟨b3, 0, none⟩) frA.pg.sl.length 4) frA.pg :: memC bm bc L1 0 :: blk (b3 + 1) (.cells #[.int .i64 (pgA).lev, (.slice (some ⟨b3, 0, none⟩) pgA.sl.length 4), .string (pgA).hi, .bool (pgA).la, .int .u64 (pgA).ri] 43) :: blk b2 (.cells #[.int .i64 (d).th, .int .i64 (d).sn, .int .i64 (d).no, .int .i64 (d).ch, .int .i64 (d).re, .int .i64 (d).fa, .int .u64 (d).cl] 29) :: blk b1 (.cells #[.int .i64 (d).th, .int .i64 (d).sn, .int .i64 (d).no, .int .i64 (d).ch, .int .i64 (d).re, .int .i64 (d).fa, .int .u64 (d).cl] 26) :: cs))
    (fun v W => ∃ (b : Nat) (a : Option Addr) (c : Nat), v = (.pointer (some ⟨b, 0, none⟩)) ∧ InAt K W b bm bc d frA (.slice (some ⟨b3, 0, none⟩) frA.pg.sl.length 4) fuA (.slice a fuA.sl.length c) L1 (blk (b3 + 1) (.cells #[.int .i64 (pgA).lev, (.slice (some ⟨b3, 0, none⟩) pgA.sl.length 4), .string (pgA).hi, .bool (pgA).la, .int .u64 (pgA).ri] 43) :: blk b2 (.cells #[.int .i64 (d).th, .int .i64 (d).sn, .int .i64 (d).no, .int .i64 (d).ch, .int .i64 (d).re, .int .i64 (d).fa, .int .u64 (d).cl] 29) :: blk b1 (.cells #[.int .i64 (d).th, .int .i64 (d).sn, .int .i64 (d).no, .int .i64 (d).ch, .int .i64 (d).re, .int .i64 (d).fa, .int .u64 (d).cl] 26) :: cs) 0 21)
    (fun v u W => ∃ (b : Nat) (a : Option Addr) (c : Nat), v = (.pointer (some ⟨b, 0, none⟩)) ∧ u = (.pointer (some ⟨b, 0, none⟩)) ∧ InAt K W b bm bc d frA (.slice (some ⟨b3, 0, none⟩) frA.pg.sl.length 4) fuA (.slice a fuA.sl.length c) L1 (blk (b3 + 1) (.cells #[.int .i64 (pgA).lev, (.slice (some ⟨b3, 0, none⟩) pgA.sl.length 4), .string (pgA).hi, .bool (pgA).la, .int .u64 (pgA).ri] 43) :: blk b2 (.cells #[.int .i64 (d).th, .int .i64 (d).sn, .int .i64 (d).no, .int .i64 (d).ch, .int .i64 (d).re, .int .i64 (d).fa, .int .u64 (d).cl] 29) :: blk b1 (.cells #[.int .i64 (d).th, .int .i64 (d).sn, .int .i64 (d).no, .int .i64 (d).ch, .int .i64 (d).re, .int .i64 (d).fa, .int .u64 (d).cl] 26) :: cs) 0 21)
    (fun W => St K W (blk (b3 + 1) (.cells #[.int .i64 (pgA).lev, (.slice (some ⟨b3, 0, none⟩) pgA.sl.length 4), .string (pgA).hi, .bool (pgA).la, .int .u64 (pgA).ri] 43) :: blk b2 (.cells #[.int .i64 (d).th, .int .i64 (d).sn, .int .i64 (d).no, .int .i64 (d).ch, .int .i64 (d).re, .int .i64 (d).fa, .int .u64 (d).cl] 29) :: blk b1 (.cells #[.int .i64 (d).th, .int .i64 (d).sn, .int .i64 (d).no, .int .i64 (d).ch, .int .i64 (d).re, .int .i64 (d).fa, .int .u64 (d).cl] 26) :: cs)) ?aS (by decide) (by kernel_rfl) ?hB ?H ?haS Hs.out ?hI ?hR ?hE1 ?hE2 ?hQ
  case hB => as_aux_lemma => kernel_rfl
  case H =>
    intro W2 hs
    have kp := hs.k0
    have kl := hs.k1
    have Ql := Lib.hid (fun w => ltLock_any 0 (by decide) (by decide) w)
    clear hs
    simp only [withM]
    repeat (go_big_quiet_step ((go_at_call 30; exact pure_of_same (Ql.out _))))
    refine wpQuiet_nil ?_
    rfl
  case haS => rfl
  case hI => exact ⟨fun W h => h.tail.tail, fun v W ⟨_, _, _, _, h⟩ => h.rest, fun v u W ⟨_, _, _, _, _, h⟩ => h.rest⟩
  case hR => exact ⟨fun W W' h hb => h.same hb, fun v W W' ⟨b, a, c, e, h⟩ hb => ⟨b, a, c, e, h.same hb⟩, fun v u W W' ⟨b, a, c, e, e2, h⟩ hb => ⟨b, a, c, e, e2, h.same hb⟩⟩
  case hE1 =>
    intro R2' o ho ρ W2 hs hk af haf
    obtain rfl := Option.some.inj ho
    subst haf
    have Hk := Lib.hid hk
    clear hk
    go_wp2_with fail
    refine (newInsert_at (key := ⟨#[101]⟩) (ref := 5) hd.out (frA_ok hd.out) (show fuA = insPg frA.pg _ _ from rfl) pgA_no pgA_asc (fuA_ok hd.out) hs).mono ?_
    rintro e w1 ⟨b, a, c, rfl, h⟩
    have H := Lib.hid h
    clear h
    go_wp2
    exact ⟨rfl, _, rfl, Hk.out _ _ ⟨b, a, c, rfl, by rw [show (21 : Nat) = 2 * fuA.sl.length + 11 by rw [fuA_len]]; exact H.out⟩⟩
  case hE2 =>
    rintro R2' o ho ρ v W2 ⟨b, a, c, rfl, h⟩ hk af haf
    obtain rfl := Option.some.inj ho
    have Hk := Lib.hid hk
    have H := Lib.hid h
    clear hk h
    simp only [dstAt, List.getElem?_cons_succ, List.getElem?_cons_zero, Option.bind_some, Act.put, List.setIfInBounds_toArray, List.set_cons_zero, List.set_cons_succ] at haf
    subst haf
    go_wp2
    exact ⟨rfl, _, rfl, Hk.out _ _ ⟨b, a, c, rfl, rfl, H.out⟩⟩
  case hQ =>
  rintro v u W2 ⟨b, a, c, rfl, rfl, h⟩
  simp only [dstAt, List.getElem?_cons_succ, List.getElem?_cons_zero, Option.bind_some, Act.put, List.setIfInBounds_toArray, List.set_cons_zero, List.set_cons_succ]
  clear Hs
  obtain ⟨F, hF⟩ : ∃ F, F = (blk (b3 + 1) (.cells #[.int .i64 (pgA).lev, (.slice (some ⟨b3, 0, none⟩) pgA.sl.length 4), .string (pgA).hi, .bool (pgA).la, .int .u64 (pgA).ri] 43) :: blk b2 (.cells #[.int .i64 (d).th, .int .i64 (d).sn, .int .i64 (d).no, .int .i64 (d).ch, .int .i64 (d).re, .int .i64 (d).fa, .int .u64 (d).cl] 29) :: blk b1 (.cells #[.int .i64 (d).th, .int .i64 (d).sn, .int .i64 (d).no, .int .i64 (d).ch, .int .i64 (d).re, .int .i64 (d).fa, .int .u64 (d).cl] 26) :: cs) := ⟨_, rfl⟩
  rw [← hF] at h
  have HF : Hid (∀ W, St K W F → St K W cs) := Lib.hid (fun W hs => by rw [hF] at hs; exact hs.tail.tail.tail)
  clear hF
  go_wp2
  go_loopw [6] (fun vk wr => ∃ (n r : Nat), n + r ≤ 100 ∧ vk = .int .i64 n ∧ InAt K wr b bm bc d frA (.slice (some ⟨b3, 0, none⟩) frA.pg.sl.length 4) fuA (.slice a fuA.sl.length c) L1 F n r) (fun v _ => 101 - (intOf v).toNat)
  case atStart => exact ⟨0, 21, by omega, rfl, h⟩
  case round =>
    clear h
    obtain ⟨n, r, hn, rfl, h⟩ := hrel
    have q := insGo hd.out (frA_ok hd.out) (fuA_ok hd.out) HL1.out.1 HL1.out.2.1 (by omega) h
    have Q := Lib.hid q
    clear q h
    go_wp2_with fail
    refine (Q.out).mono ?_
    clear Q
    rintro e w4 (⟨r', hr, rfl, h⟩ | ⟨rfl, h⟩)
    · go_wp2
      go_roundw
      case rel => exact ⟨n + 1, r', by omega, by go_num, h⟩
      case measure => simp [intOf]; omega
    · have hlen5 : d.fa < (fuA.sl.length : Int) := by rw [fuA_len, hfa.out]; decide
      have hid2 := HL1.out.2.2
      rcases h with ⟨x, p, L2, ps, va, hc, hw, hs⟩ | ⟨_, hc, _⟩
      · rcases hc with ⟨hc, _⟩ | ⟨_, _, ⟨vb, rfl, ab, cb, rfl⟩, rfl, _⟩
        · omega
        · rw [hid2] at hs
          obtain ⟨al, cl, rfl, _, _⟩ := (show St K w4 (rowC va 69 2 (splL fuA 2).sl.length (slRow (splL fuA 2).sl) :: _) from hs.b2).row_read
          have HL : (splL fuA 2).sl.length = 3 := by show (fuA.sl.take (splK fuA.sl.length)).length = 3; rw [List.length_take, fuA_len]; decide
          have HR : (splR fuA).sl.length = 2 := by show (fuA.sl.drop (splK fuA.sl.length)).length = 2; rw [List.length_drop, fuA_len]; decide
          obtain ⟨vf, hvf⟩ : ∃ vf : Value, vf = (.slice (some ⟨b3, 0, none⟩) frA.pg.sl.length 4) := ⟨_, rfl⟩
          obtain ⟨vu, hvu⟩ : ∃ vu : Value, vu = (.slice a fuA.sl.length c) := ⟨_, rfl⟩
          rw [← hvf, ← hvu] at hs
          obtain ⟨x, hx⟩ : ∃ x, x = ({ inxB frA vf fuA vu 2 (.slice ab (splR fuA).sl.length cb) with le := ⟨1, ltEnd (ltBegin (ltLock 0)), splL fuA 2⟩, vl := .slice al (splL fuA 2).sl.length cl } : InX) := ⟨_, rfl⟩
          have hs : St K w4 (insC b .nilFunc d x :: memC bm bc (putAll L2 ps) (n + 1) :: slC x.vl x.le.pg :: slC vf frA.pg :: slC x.vr x.ri.pg :: F) := by rw [hx]; exact hs
          have hxl : x.vl = .slice al x.le.pg.sl.length cl := by rw [hx]
          have hxr : x.vr = .slice ab x.ri.pg.sl.length cb := by rw [hx]; rfl
          have hon : x.on = true := by rw [hx]; rfl
          have hx1 : x.le.pg.sl.length = 3 := by rw [hx]; exact HL
          have hx2 : x.ri.pg.sl.length = 2 := by rw [hx]; exact HR
          have hx3 : x.ri.id = 2 := by rw [hx]; rfl
          have hx4 : x.err = 0 := by rw [hx]; rfl
          clear hx hvf hvu HL HR hw hid2 hlen5 hn
          have q1 := insErr_st hs
          have Q1 := Lib.hid q1
          have QL := Lib.hid (fun W (R : List Comp) (h : St K W (insC b .nilFunc d x :: slC x.vl x.le.pg :: R)) => insLeft_st hon (by rw [hx1]; decide) hxl h)
          have QR := Lib.hid (fun W (R : List Comp) (h : St K W (insC b .nilFunc d x :: slC x.vr x.ri.pg :: R)) => insRight_st hon (by rw [hx2]; decide) hxr h)
          have Hx1 := Lib.hid hx1
          have Hx2 := Lib.hid hx2
          have Hx3 := Lib.hid hx3
          have Hx4 := Lib.hid hx4
          clear hs q1 hx1 hx2 hx3 hx4 hxl hxr hon
          go_wp2_with fail
          refine (Q1.out).mono ?_
          clear Q1
          rintro e w5 ⟨rfl, hs⟩
          rw [Hx4.out]
          have q := QL.out _ _ (hs.re [0, 2, 1] rfl)
          have Q := Lib.hid q
          clear q hs
          go_wp2_with fail
          refine (Q.out).mono ?_
          clear Q
          rintro e w6 ⟨va1, rfl, hs⟩
          obtain ⟨a1, c1, rfl, _, _⟩ := hs.row_read
          have q := QR.out _ _ ((show St K w6 (_ :: _ :: _ :: _ :: _ :: _ :: F) from hs).re [1, 5, 0, 2, 3, 4] rfl)
          have Q := Lib.hid q
          clear q hs
          rw [Hx1.out]
          go_wp2_with fail
          refine (Q.out).mono ?_
          clear Q
          rintro e w7 ⟨va2, rfl, hs⟩
          obtain ⟨a2, c2, rfl, _, _⟩ := hs.row_read
          have q := QR.out _ _ hs.tail
          have Q := Lib.hid q
          clear q hs
          rw [Hx2.out]
          go_wp2_with fail
          refine (Q.out).mono ?_
          clear Q
          rintro e w8 ⟨va3, rfl, hs⟩
          obtain ⟨a3, c3, rfl, _, _⟩ := hs.row_read
          have hs := HF.out _ ((show St K w8 (_ :: _ :: _ :: _ :: _ :: _ :: _ :: F) from hs).tail.tail.tail.tail.tail.tail.tail)
          rw [Hx3.out]
          go_wp2
          go_ret
          exact ⟨rfl, hs⟩
      · have := hno.out
        omega
end
end Go.Proofs.YtlpdhhhgckpcfaaGreat
