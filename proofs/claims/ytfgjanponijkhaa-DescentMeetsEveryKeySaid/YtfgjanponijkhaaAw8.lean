/- The reader's step; blinktreelaw8's awake. -/
import Derived.Test.YtfgjanponijkhaaNode8
import Derived.Test.YtfgjanponijkhaaNodePg
namespace Go.Proofs.Ytfgjanponijkhaa
open Go.RowKit
set_option maxRecDepth 100000

theorem field_page1 (w : World) (lev ri : Int) (a : Option Addr) (n c : Nat) (hi : ByteArray) (la : Bool) : (Instr.field 25 (.agg #[.int .i64 lev, .slice a n c, .string hi, .bool la, .int .u64 ri]) 1).run Try.prog w = .ok (.slice a n c) w := rfl
theorem field_page3 (w : World) (lev ri : Int) (a : Option Addr) (n c : Nat) (hi : ByteArray) (la : Bool) : (Instr.field 25 (.agg #[.int .i64 lev, .slice a n c, .string hi, .bool la, .int .u64 ri]) 3).run Try.prog w = .ok (.bool la) w := rfl
theorem field_page4 (w : World) (lev ri : Int) (a : Option Addr) (n c : Nat) (hi : ByteArray) (la : Bool) : (Instr.field 25 (.agg #[.int .i64 lev, .slice a n c, .string hi, .bool la, .int .u64 ri]) 4).run Try.prog w = .ok (.int .u64 ri) w := rfl
attribute [go_sem] field_page1 field_page3 field_page4

section
variable {K : Know} {w : World} {F : List Comp} {b bm bc : Nat} {L : List Cel} {acc : Nat} {va : Value} {d : Cfg} {id : Int} {s : RdS}
theorem rdStep_st (hd : d.Ok) (hid : 0 ≤ id ∧ id < 18446744073709551616) (hL : CelsOk L) (ha : acc ≤ 1000000000000) (hok : s.Ok d) (hs : St K w (rdC b d id va s :: slC va s.pg :: memC bm bc L acc :: F)) :
    Calls Try.prog 26 #[.pointer (some ⟨b, 0, none⟩), .pointer (some ⟨bm, 0, none⟩)] w fun e w' => ∃ va', e = .returned (.bool (decide (6 ≤ (rdStep d id L s).pc))) ∧ St K w' (rdC b d id va' (rdStep d id L s) :: slC va' (rdStep d id L s).pg :: memC bm bc L (rdAcc s.pc acc) :: F) := by
  have Q := Lib.hid (rdRun_st hd hid hL ha hok hs)
  clear hs
  go_enter Try.func26, Try.ntmps26
  go_wp2_with fail
  refine (Q.out).mono ?_
  rintro e w1 ⟨va', rfl, hs⟩
  go_wp2
  go_ret
  exact ⟨va', rfl, hs⟩
end

section
variable {K : Know} {w : World} {cs : List Comp}
set_option maxHeartbeats 4000000 in
theorem awake8_st (hs : St K w cs) : Calls Try.prog 19 #[] w fun e w' => e = .returned (.bool true) ∧ St K w' cs := by
  obtain ⟨d, hd, Q1, Q2⟩ : ∃ d : Cfg, Hid d.Ok ∧ Hid (∀ w, Calls Try.prog 17 #[.int .i64 1, .int .i64 0] w fun e w' => e = .returned (.agg #[.int .i64 d.th, .int .i64 d.sn, .int .i64 d.no, .int .i64 d.ch, .int .i64 d.re, .int .i64 d.fa, .int .u64 d.cl]) ∧ Below w.heap.size w w') ∧ Hid (∀ w K cs, St K w cs → Calls Try.prog 18 #[.agg #[.int .i64 d.th, .int .i64 d.sn, .int .i64 d.no, .int .i64 d.ch, .int .i64 d.re, .int .i64 d.fa, .int .u64 d.cl]] w fun e w'' => ∃ bm bc, e = .returned (.tuple #[.agg #[.int .i64 d.th, .int .i64 d.sn, .int .i64 d.no, .int .i64 d.ch, .int .i64 d.re, .int .i64 d.fa, .int .u64 d.cl], .pointer (some ⟨bm, 0, none⟩)]) ∧ St K w'' (memC bm bc (startL d) 0 :: cs)) :=
    ⟨kitC 1 4 1000, Lib.hid (kit8_ok 0), Lib.hid (fun w => kitConfig_any 1 0 w), Lib.hid (fun w K cs hs => kitMemory_st (kit8_ok 0) hs)⟩
  obtain ⟨p1, p2, p3, _⟩ := start_page hd.out
  generalize startL d = L0 at *
  have hc : ltChg (getC L0 (d.node 1 0)).n = false := by rw [p2]; rfl
  have E := Lib.hid (rd_empty p1 rfl hc (s := rd0) rfl)
  have Pg := Lib.hid (fun n h6 => rd_page p1 hc (s := rd0) rfl (n := n) h6)
  have Ok := Lib.hid (fun n => rd_oks hd.out p3 (s := rd0) (id := 1) (rd0_ok d) n)
  have HL := Lib.hid p3
  clear p1 p2 p3 hc
  go_enter Try.func19, Try.ntmps19
  go_wp2_with fail
  refine (calls_same hs (Q1.out _)).mono ?_
  clear hs
  rintro e w1 ⟨rfl, hs⟩
  go_wp2_with fail
  refine (Q2.out _ _ _ hs).mono ?_
  clear hs
  rintro e w2 ⟨bm, bc, rfl, hs⟩
  have hs := hs.made (.cells #[.int .i64 d.th, .int .i64 d.sn, .int .i64 d.no, .int .i64 d.ch, .int .i64 d.re, .int .i64 d.fa, .int .u64 d.cl] 30)
  obtain ⟨bl, hbl⟩ : ∃ bl, bl = w2.heap.size := ⟨_, rfl⟩
  go_wp2_with fail
  rw [← hbl] at hs ⊢
  clear hbl
  refine (newRead_st (d := d) (id := 1) hs).mono ?_
  clear hs
  rintro e w3 ⟨b, rfl, hs⟩
  go_wp2
  go_loopw [4] (fun vk wr => ∃ (n : Nat) (va : Value), n ≤ 4 ∧ vk = .int .i64 n ∧ St K wr (rdC b d 1 va (it (rdStep d 1 L0) n rd0) :: slC va (it (rdStep d 1 L0) n rd0).pg :: memC bm bc L0 n :: blk bl (.cells #[.int .i64 d.th, .int .i64 d.sn, .int .i64 d.no, .int .i64 d.ch, .int .i64 d.re, .int .i64 d.fa, .int .u64 d.cl] 30) :: cs)) (fun v _ => 5 - (intOf v).toNat)
  case atStart => exact ⟨0, .slice none 0 0, by omega, rfl, hs.b3.u2⟩
  case round =>
    clear hs
    obtain ⟨n, va, hn, rfl, hs⟩ := hrel
    have q := rdStep_st hd.out (by omega) HL.out (by omega) (Ok.out n) hs
    obtain ⟨e1, e2, e3, e4, e5⟩ := E.out
    have hp : (it (rdStep d 1 L0) n rd0).pc < 6 := by
      rcases (show n = 0 ∨ n = 1 ∨ n = 2 ∨ n = 3 ∨ n = 4 by omega) with rfl | rfl | rfl | rfl | rfl
      · show (0 : Nat) < 6; omega
      · omega
      · omega
      · omega
      · omega
    rw [← it_succ (rdStep d 1 L0) n rd0, show rdAcc (it (rdStep d 1 L0) n rd0).pc n = n + 1 from if_neg (by omega)] at q
    clear hs
    by_cases hn4 : n < 4
    · have hp1 : ¬ 6 ≤ (it (rdStep d 1 L0) (n + 1) rd0).pc := by
        rcases (show n = 0 ∨ n = 1 ∨ n = 2 ∨ n = 3 by omega) with rfl | rfl | rfl | rfl
        · rw [e1]; omega
        · rw [e2]; omega
        · rw [e3]; omega
        · rw [e4]; omega
      rw [decide_eq_false hp1] at q
      have Q := Lib.hid q
      clear q hp hp1 e1 e2 e3 e4 e5
      go_wp2_with fail
      refine (Q.out).mono ?_
      clear Q
      rintro e w4 ⟨va', rfl, hs⟩
      go_wp2
      go_roundw
      case rel => exact ⟨n + 1, va', by omega, by go_num, hs⟩
      case measure => simp [intOf]; omega
    · obtain rfl : n = 4 := by omega
      rw [e5] at q
      have hpg := Pg.out 5 e5
      clear hp e1 e2 e3 e4 hn4
      generalize it (rdStep d 1 L0) (4 + 1) rd0 = s5 at *
      obtain ⟨pc, pg, left, word, t⟩ := s5
      simp only at e5 hpg
      subst e5 hpg
      have Q := Lib.hid q
      clear q
      go_wp2_with fail
      refine (Q.out).mono ?_
      clear Q
      rintro e w4 ⟨va', rfl, hs⟩
      go_wp2_with fail
      refine (accesses_st hs.mem2).mono ?_
      rintro e w5 ⟨rfl, rfl⟩
      go_wp2_with fail
      have q1 := rdPage_st (by rfl) (by simp) hs
      dsimp only at q1
      refine q1.mono ?_
      clear hs q1
      rintro e w6 ⟨va1, rfl, hs⟩
      obtain ⟨a1, cap1, hv, _, _⟩ := hs.row_read
      subst hv
      have hs := hs.tail
      go_wp2_with fail
      have q1 := rdPage_st (by rfl) (by simp) hs
      dsimp only at q1
      refine q1.mono ?_
      clear hs q1
      rintro e w7 ⟨va2, rfl, hs⟩
      obtain ⟨a2, cap2, hv, _, _⟩ := hs.row_read
      subst hv
      have hs := hs.tail
      go_wp2_with fail
      have q1 := rdPage_st (by rfl) (by simp) hs
      dsimp only at q1
      refine q1.mono ?_
      clear hs q1
      rintro e w8 ⟨va3, rfl, hs⟩
      obtain ⟨a3, cap3, hv, _, _⟩ := hs.row_read
      subst hv
      go_wp2
      go_ret
      exact ⟨rfl, hs.tail.tail.tail.tail.tail⟩
end
end Go.Proofs.Ytfgjanponijkhaa
