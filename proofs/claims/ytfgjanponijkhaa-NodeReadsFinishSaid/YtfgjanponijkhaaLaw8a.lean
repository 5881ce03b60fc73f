/- The walk of NodeReadsFinish. -/
import Derived.Test.YtfgjanponijkhaaAw8
namespace Go.Proofs.Ytfgjanponijkhaa
open Go.RowKit
set_option maxRecDepth 100000

theorem kit8_ok (fa : Int) : (kitC 1 (4 + fa % 3) 1000).Ok := by
  have h0 : 0 ≤ fa % 3 := by omega
  have h1 : fa % 3 ≤ 2 := by omega
  constructor <;> simp only [kitC] <;> omega
theorem PgIn.keep {w w' : World} {lev ri : Int} {a : Option Addr} {len cap : Nat} {hi : ByteArray} {f : Nat → Sl} (h : PgIn w lev a len cap hi ri f) (hb : Below w.heap.size w w') : PgIn w' lev a len cap hi ri f :=
  ⟨h.sl.keep hb, h.cap, h.lev, h.hi, h.ri⟩

/-- What is known of a page that content has made. -/
structure PgOk (d : Cfg) (pg : Pg) : Prop where
  le : (pg.sl.length : Int) ≤ d.fa
  ri : 0 ≤ pg.ri ∧ pg.ri < 18446744073709551616
  r : ∀ s, s ∈ pg.sl → 0 ≤ s.r ∧ s.r < 18446744073709551616
  k : ∀ s, s ∈ pg.sl → s.k.size ≤ maxLen
  hi : pg.hi.size ≤ maxLen
  la : pg.la = true → pg.hi = ⟨#[]⟩
theorem ctPg_ok {d : Cfg} (hd : d.Ok) {w : World} {lev level ri : Int} {a : Option Addr} {len cap : Nat} {hi : ByteArray} {la : Bool} {f : Nat → Sl} (h : PgIn w lev a len cap hi ri f) : PgOk d (ctPg d level len hi la ri f) := by
  have f1 := hd.fa1
  have hs : ∀ s, s ∈ (ctPg d level len hi la ri f).sl → ∃ i, i < len ∧ s = f i := by
    intro s hs
    simp only [ctPg, List.mem_map, List.mem_range] at hs
    obtain ⟨i, hi, rfl⟩ := hs
    exact ⟨i, by omega, rfl⟩
  refine ⟨by simp [ctPg]; omega, wf_u64 h.ri, fun s h1 => ?_, fun s h1 => ?_, ?_, fun e => ?_⟩
  · obtain ⟨i, hi, rfl⟩ := hs s h1
    obtain ⟨_, _, _, _, _, _, _, hw⟩ := h.sl.2 i hi
    exact wf_u64 hw
  · obtain ⟨i, hi, rfl⟩ := hs s h1
    obtain ⟨_, _, _, _, _, _, hk, _⟩ := h.sl.2 i hi
    exact hk
  · show (cond la ⟨#[]⟩ hi).size ≤ maxLen
    cases la
    · exact h.hi
    · show 0 ≤ maxLen; omega
  · have e' : la = true := e
    show cond la ⟨#[]⟩ hi = ⟨#[]⟩
    rw [e']; rfl

set_option maxHeartbeats 8000000 in
theorem nodeReadsFinish_walk (fanout lev : Int) (a : Option Addr) (len cap : Nat) (hi : ByteArray) (la : Bool) (ri : Int) (f : Nat → Sl) (word sp : Int) (hword : 0 ≤ word ∧ word < 18446744073709551616) (hsp : 0 ≤ sp ∧ sp < 256) (w : World) (h : PgIn w lev a len cap hi ri f) :
    Calls Try.prog 3 #[.int .i64 fanout, .agg #[.int .i64 lev, .slice a len cap, .string hi, .bool la, .int .u64 ri], .int .u64 word, .int .u8 sp] w fun e w' => e = .returned (.bool true) ∧ Below w.heap.size w w' := by
  obtain ⟨d, hd, hno, Q1, Q2⟩ : ∃ d : Cfg, Hid d.Ok ∧ Hid (1 ≤ d.no) ∧ Hid (∀ w, Calls Try.prog 17 #[.int .i64 1, .int .i64 fanout] w fun e w' => e = .returned (.agg #[.int .i64 d.th, .int .i64 d.sn, .int .i64 d.no, .int .i64 d.ch, .int .i64 d.re, .int .i64 d.fa, .int .u64 d.cl]) ∧ Below w.heap.size w w') ∧ Hid (∀ w K cs, St K w cs → Calls Try.prog 18 #[.agg #[.int .i64 d.th, .int .i64 d.sn, .int .i64 d.no, .int .i64 d.ch, .int .i64 d.re, .int .i64 d.fa, .int .u64 d.cl]] w fun e w'' => ∃ bm bc, e = .returned (.tuple #[.agg #[.int .i64 d.th, .int .i64 d.sn, .int .i64 d.no, .int .i64 d.ch, .int .i64 d.re, .int .i64 d.fa, .int .u64 d.cl], .pointer (some ⟨bm, 0, none⟩)]) ∧ St K w'' (memC bm bc (startL d) 0 :: cs)) :=
    ⟨kitC 1 (4 + fanout % 3) 1000, Lib.hid (kit8_ok fanout), Lib.hid (by simp [kitC]), Lib.hid (fun w => kitConfig_any 1 fanout w), Lib.hid (fun w K cs hs => kitMemory_st (kit8_ok fanout) hs)⟩
  have f1 := hd.out.fa1
  have f2 := hd.out.fa2
  obtain ⟨_, _, p3, p4⟩ := start_page hd.out
  obtain ⟨pg, hpg⟩ : ∃ pg, pg = ctPg d 0 len hi la ri f := ⟨_, rfl⟩
  have po : PgOk d pg := by rw [hpg]; exact ctPg_ok hd.out h
  have hlev : pg.lev = 0 := by rw [hpg]; rfl
  have qc := fun w1 K cs (hs : St K w1 cs) (hp : PgIn w1 lev a len cap hi ri f) => content_st (level := 0) (la := la) hd.out hs hp
  rw [← hpg] at qc
  generalize startL d = L0 at *
  have pa := putPg_at hd.out (id := 1) (by omega) hno.out p4 (pg := pg) ⟨by omega, by omega⟩ po.le
  have pk : CelsOk (putPg d 1 pg L0) := putPg_ok p3 (by have := po.le; omega) po.ri po.r
  have pl : ((putPg d 1 pg L0).length : Int) = d.cells := by rw [putPg_length]; exact p4
  obtain ⟨L1, hL1⟩ : ∃ L1, L1 = putPg d 1 pg L0 := ⟨_, rfl⟩
  rw [← hL1] at pa pk pl
  have hb1 := ltBegin_bd hword.1 hword.2
  have hb2 := ltEnd_bd (ltBegin word)
  have g2 : getC (putC L1 (d.node 1 0) ⟨ltBegin word, ⟨#[]⟩, 0⟩) (d.node 1 0) = ⟨ltBegin word, ⟨#[]⟩, 0⟩ := latch_at hd.out (id := 1) (by omega) hno.out pl
  have k2 : CelsOk (putC L1 (d.node 1 0) ⟨ltBegin word, ⟨#[]⟩, 0⟩) := pk.put hb1
  have a2 : PageAt d 1 (putC L1 (d.node 1 0) ⟨ltBegin word, ⟨#[]⟩, 0⟩) pg := pa.latch hd.out (by omega) hno.out
  obtain ⟨L2, hL2⟩ : ∃ L2, L2 = putC L1 (d.node 1 0) ⟨ltBegin word, ⟨#[]⟩, 0⟩ := ⟨_, rfl⟩
  rw [← hL2] at g2 k2 a2
  have l2 : (L2.length : Int) = d.cells := by rw [hL2, putC_length]; exact pl
  have g3 : getC (putC L2 (d.node 1 0) ⟨ltEnd (ltBegin word), ⟨#[]⟩, 0⟩) (d.node 1 0) = ⟨ltEnd (ltBegin word), ⟨#[]⟩, 0⟩ := latch_at hd.out (id := 1) (by omega) hno.out l2
  have k3 : CelsOk (putC L2 (d.node 1 0) ⟨ltEnd (ltBegin word), ⟨#[]⟩, 0⟩) := k2.put hb2
  have a3 : PageAt d 1 (putC L2 (d.node 1 0) ⟨ltEnd (ltBegin word), ⟨#[]⟩, 0⟩) pg := a2.latch hd.out (by omega) hno.out
  obtain ⟨L3, hL3⟩ : ∃ L3, L3 = putC L2 (d.node 1 0) ⟨ltEnd (ltBegin word), ⟨#[]⟩, 0⟩ := ⟨_, rfl⟩
  rw [← hL3] at g3 k3 a3
  have c2 : ltChg (getC L2 (d.node 1 0)).n = true := by rw [g2]; exact ltBegin_chg
  have c3 : ltChg (getC L3 (d.node 1 0)).n = false := by rw [g3]; exact ltEnd_chg hb1.1
  have Wt := Lib.hid (fun n => rd_wait (d := d) (id := 1) c2 n (s := rd0) rfl)
  have Ok2 := Lib.hid (fun n => rd_oks hd.out k2 (s := rd0) (id := 1) (rd0_ok d) n)
  have K2 := Lib.hid k2
  have K3 := Lib.hid k3
  have Fin := Lib.hid (fun (s : RdS) (hs : s.pc = 0) N (hN : pg.sl.length + 5 ≤ N) => rd_final a3 c3 hs hN)
  have Pge := Lib.hid (fun (s : RdS) (hs : s.pc = 0) n h6 => rd_page a3 c3 (s := s) hs (n := n) h6)
  have Po := Lib.hid po
  have HL1 := Lib.hid hL1
  have HL2 := Lib.hid hL2
  have HL3 := Lib.hid hL3
  have Hlev := Lib.hid hlev
  have Hp := Lib.hid h
  have Qc := Lib.hid qc
  have Qn := Lib.hid (fun w => refNode_any d hd.out 1 0 (by omega) (by omega) (by omega) (by omega) w)
  have Qb := Lib.hid (fun w => ltBegin_any word hword.1 hword.2 w)
  have Qe := Lib.hid (fun w => ltEnd_any (ltBegin word) hb1.1 hb1.2 w)
  have hle := po.le
  clear p3 p4 po hlev qc pa pk pl hb2 g2 k2 a2 l2 g3 k3 a3 hL1 hL2 hL3 c2 c3 h hword hpg
  have hs := (St.start w).made (.cells #[.int .i64 lev, .slice a len cap, .string hi, .bool la, .int .u64 ri] 25)
  go_enter Try.func3, Try.ntmps3
  go_wp2_with fail
  refine (calls_same hs (Q1.out _)).mono ?_
  clear hs
  rintro e w1 ⟨rfl, hs⟩
  have hs := hs.made (.cells #[.int .i64 d.th, .int .i64 d.sn, .int .i64 d.no, .int .i64 d.ch, .int .i64 d.re, .int .i64 d.fa, .int .u64 d.cl] 27)
  obtain ⟨bc0, hbc0⟩ : ∃ bc0, bc0 = w1.heap.size := ⟨_, rfl⟩
  have kc := hs.k0
  go_wp2_with fail
  rw [← hbc0] at hs kc ⊢
  clear hbc0
  refine (Q2.out _ _ _ hs).mono ?_
  clear hs kc
  rintro e w2 ⟨bm, bc, rfl, hs⟩
  have hs := hs.made (.cells #[.int .i64 d.th, .int .i64 d.sn, .int .i64 d.no, .int .i64 d.ch, .int .i64 d.re, .int .i64 d.fa, .int .u64 d.cl] 30)
  obtain ⟨bl, hbl⟩ : ∃ bl, bl = w2.heap.size := ⟨_, rfl⟩
  go_wp2_with fail
  rw [← hbl] at hs ⊢
  clear hbl
  refine (awake8_st hs).mono ?_
  clear hs
  rintro e w3 ⟨rfl, hs⟩
  have kp := hs.b3.k0
  have kc := hs.k2
  go_wp2_with fail
  refine (Qc.out _ _ _ hs (Hp.out.keep (hs.below (Know.Le.refl _)))).mono ?_
  clear hs kp kc Hp
  rintro e w4 ⟨va, rfl, hs⟩
  obtain ⟨ax, capx, rfl, _, _⟩ := hs.row_read
  have hs := hs.made (.cells #[.int .i64 pg.lev, .slice ax pg.sl.length capx, .string pg.hi, .bool pg.la, .int .u64 pg.ri] 25)
  obtain ⟨bx, hbx⟩ : ∃ bx, bx = w4.heap.size := ⟨_, rfl⟩
  have kc := hs.b4.k0
  go_wp2_with fail
  rw [← hbx] at hs ⊢
  clear hbx
  have q := kitPut_st (id := 1) hd.out (by omega) ⟨by rw [Hlev.out]; omega, by rw [Hlev.out]; omega⟩ hle hs.b1.b3
  rw [← HL1.out] at q
  refine q.mono ?_
  clear hs kc q
  rintro e w5 ⟨rfl, hs⟩
  have kc := hs.b4.k0
  go_wp2_with fail
  refine (calls_same hs (Qn.out _)).mono ?_
  clear hs kc
  rintro e w6 ⟨rfl, hs⟩
  go_wp2_with fail
  refine (calls_id hs (Qb.out _)).mono ?_
  clear hs
  rintro e w7 ⟨rfl, hs⟩
  go_wp2_with fail
  have q := poke_st (i := d.node 1 0) (c := ⟨ltBegin word, ⟨#[]⟩, 0⟩) hs
  rw [← HL2.out] at q
  refine q.mono ?_
  clear hs q
  rintro e w8 ⟨rfl, hs⟩
  have kl := hs.b3.k0
  go_wp2_with fail
  refine (newRead_st (d := d) (id := 1) hs).mono ?_
  clear hs kl
  rintro e w9 ⟨b, rfl, hs⟩
  go_wp2
  go_loopw [15] (fun vk wr => ∃ (k : Nat) (va : Value), (k : Int) ≤ sp % 60 ∧ vk = .int .i64 k ∧ St (Know.of w) wr (rdC b d 1 va (it (rdStep d 1 L2) k rd0) :: slC va (it (rdStep d 1 L2) k rd0).pg :: memC bm bc L2 k :: rowC (.slice ax pg.sl.length capx) 132 2 pg.sl.length (slRow pg.sl) :: blk bx (.cells #[.int .i64 (pg).lev, (.slice ax pg.sl.length capx), .string (pg).hi, .bool (pg).la, .int .u64 (pg).ri] 25) :: blk bl (.cells #[.int .i64 d.th, .int .i64 d.sn, .int .i64 d.no, .int .i64 d.ch, .int .i64 d.re, .int .i64 d.fa, .int .u64 d.cl] 30) :: blk bc0 (.cells #[.int .i64 d.th, .int .i64 d.sn, .int .i64 d.no, .int .i64 d.ch, .int .i64 d.re, .int .i64 d.fa, .int .u64 d.cl] 27) :: [blk w.heap.size (.cells #[.int .i64 lev, .slice a len cap, .string hi, .bool la, .int .u64 ri] 25)])) (fun v _ => 60 - (intOf v).toNat)
  case atStart => exact ⟨0, .slice none 0 0, by omega, rfl, hs⟩
  case round =>
    clear hs
    obtain ⟨k, va, hk, rfl, hs⟩ := hrel
    by_cases hlt : (k : Int) < sp % 60
    · have q := rdStep_st hd.out (by omega) K2.out (by omega) (Ok2.out k) hs
      rw [← it_succ (rdStep d 1 L2) k rd0, Wt.out k, Wt.out (k + 1), show rdAcc 0 k = k + 1 from rfl, show decide (6 ≤ 0) = false from rfl] at q
      have Q := Lib.hid q
      clear q hs
      go_wp2_with fail
      refine (Q.out).mono ?_
      clear Q
      rintro e w10 ⟨va', rfl, hs⟩
      go_wp2
      go_roundw
      case rel => exact ⟨k + 1, va', by omega, by go_num, hs⟩
      case measure => simp [intOf]; omega
    · have hpc := Wt.out k
      have hok := Ok2.out k
      generalize it (rdStep d 1 L2) k rd0 = s1 at *
      clear Wt Ok2
      go_wp2_with fail
      refine (calls_id hs (Qb.out _)).mono ?_
      clear hs
      rintro e w10 ⟨rfl, hs⟩
      go_wp2_with fail
      refine (calls_id hs (Qe.out _)).mono ?_
      clear hs
      rintro e w11 ⟨rfl, hs⟩
      go_wp2_with fail
      have q := poke_st (i := d.node 1 0) (c := ⟨ltEnd (ltBegin word), ⟨#[]⟩, 0⟩) hs.b2
      rw [← HL3.out] at q
      refine q.mono ?_
      clear hs q
      rintro e w12 ⟨rfl, hs⟩
      have hs := hs.u2
      go_wp2_with fail
      refine (accesses_st hs.mem2).mono ?_
      rintro e w13 ⟨rfl, rfl⟩
      have Ok3 := Lib.hid (fun n => rd_oks hd.out K3.out (s := s1) (id := 1) hok n)
      have Ok4 := Lib.hid (fun n => rd_oks hd.out K3.out (s := rd0) (id := 1) (rd0_ok d) n)
      have Fin1 := Lib.hid (Fin.out s1 hpc)
      have Pge1 := Lib.hid (Pge.out s1 hpc)
      have Fin0 := Lib.hid (Fin.out rd0 rfl)
      have Pge0 := Lib.hid (Pge.out rd0 rfl)
      clear hlt Fin Pge Qb Qe Qn Qc HL1 HL2 HL3 Hlev K2 Q1 Q2 hok
      go_wp2
      go_loopw [17] (fun vn wr => ∃ (n : Nat) (va : Value), n ≤ pg.sl.length + 4 ∧ vn = .int .i64 n ∧ (it (rdStep d 1 L3) n s1).pc < 6 ∧ St (Know.of w) wr (rdC b d 1 va (it (rdStep d 1 L3) n s1) :: slC va (it (rdStep d 1 L3) n s1).pg :: memC bm bc L3 (k + n) :: rowC (.slice ax pg.sl.length capx) 132 2 pg.sl.length (slRow pg.sl) :: blk bx (.cells #[.int .i64 (pg).lev, (.slice ax pg.sl.length capx), .string (pg).hi, .bool (pg).la, .int .u64 (pg).ri] 25) :: blk bl (.cells #[.int .i64 d.th, .int .i64 d.sn, .int .i64 d.no, .int .i64 d.ch, .int .i64 d.re, .int .i64 d.fa, .int .u64 d.cl] 30) :: blk bc0 (.cells #[.int .i64 d.th, .int .i64 d.sn, .int .i64 d.no, .int .i64 d.ch, .int .i64 d.re, .int .i64 d.fa, .int .u64 d.cl] 27) :: [blk w.heap.size (.cells #[.int .i64 lev, .slice a len cap, .string hi, .bool la, .int .u64 ri] 25)])) (fun v _ => 60 - (intOf v).toNat)
      case atStart => exact ⟨0, va, by omega, rfl, (by show s1.pc < 6; omega), hs⟩
      case round =>
        clear hs
        obtain ⟨n, vb, hn, rfl, hp6, hs⟩ := hrel
        have q := rdStep_st hd.out (by omega) K3.out (by omega) (Ok3.out n) hs
        rw [← it_succ (rdStep d 1 L3) n s1, show rdAcc (it (rdStep d 1 L3) n s1).pc (k + n) = k + n + 1 from if_neg (by omega)] at q
        have kc := hs.b6.k0
        have hok := Ok3.out (n + 1)
        clear hs hp6
        by_cases h6 : 6 ≤ (it (rdStep d 1 L3) (n + 1) s1).pc
        · rw [decide_eq_true h6] at q
          have e6 : (it (rdStep d 1 L3) (n + 1) s1).pc = 6 := by have := hok.pc; omega
          have hpg := Pge1.out (n + 1) e6
          clear h6 hok Fin1 Pge1 Ok3
          generalize it (rdStep d 1 L3) (n + 1) s1 = s2 at *
          obtain ⟨pc2, pg2, left2, word2, t2⟩ := s2
          simp only at e6 hpg
          have hpg' := hpg.symm
          subst e6 hpg'
          have Q := Lib.hid q
          clear q
          go_wp2_with fail
          refine (Q.out).mono ?_
          clear Q kc
          rintro e w14 ⟨va1, rfl, hs⟩
          have hs := hs.b3.b4.b6.b5
          have kl := hs.b6.k0
          go_wp2_with fail
          refine (newRead_st (d := d) (id := 1) hs).mono ?_
          clear hs kl
          rintro e w15 ⟨b', rfl, hs⟩
          obtain ⟨acc0, hacc0⟩ : ∃ acc0, acc0 = k + n + 1 := ⟨_, rfl⟩
          rw [← hacc0] at hs
          have hacc1 : k < acc0 := by omega
          have hacc2 : acc0 ≤ 200 := by omega
          clear hacc0 hn hpc
          go_wp2
          go_loopw [19] (fun vn wr => ∃ (n : Nat) (vb : Value), n ≤ pg.sl.length + 4 ∧ vn = .int .i64 n ∧ (it (rdStep d 1 L3) n rd0).pc < 6 ∧ St (Know.of w) wr (rdC b' d 1 vb (it (rdStep d 1 L3) n rd0) :: slC vb (it (rdStep d 1 L3) n rd0).pg :: memC bm bc L3 (acc0 + n) :: blk bc0 (.cells #[.int .i64 d.th, .int .i64 d.sn, .int .i64 d.no, .int .i64 d.ch, .int .i64 d.re, .int .i64 d.fa, .int .u64 d.cl] 27) :: blk bx (.cells #[.int .i64 (pg).lev, (.slice ax pg.sl.length capx), .string (pg).hi, .bool (pg).la, .int .u64 (pg).ri] 25) :: rowC (.slice ax pg.sl.length capx) 132 2 pg.sl.length (slRow pg.sl) :: rdC b d 1 va1 ⟨6, pg, left2, word2, t2⟩ :: slC va1 pg :: [])) (fun v _ => 60 - (intOf v).toNat)
          case atStart => exact ⟨0, .slice none 0 0, by omega, rfl, (by show (0 : Nat) < 6; omega), hs.left (F := [_, _])⟩
          case round =>
            clear hs
            obtain ⟨n2, vb, hn, rfl, hp6, hs⟩ := hrel
            have q := rdStep_st hd.out (by omega) K3.out (by omega) (Ok4.out n2) hs
            rw [← it_succ (rdStep d 1 L3) n2 rd0, show rdAcc (it (rdStep d 1 L3) n2 rd0).pc (acc0 + n2) = acc0 + n2 + 1 from if_neg (by omega)] at q
            have kc := hs.b3.k0
            have hok := Ok4.out (n2 + 1)
            clear hs hp6
            by_cases h6 : 6 ≤ (it (rdStep d 1 L3) (n2 + 1) rd0).pc
            · rw [decide_eq_true h6] at q
              have e6 : (it (rdStep d 1 L3) (n2 + 1) rd0).pc = 6 := by have := hok.pc; omega
              have hpg := Pge0.out (n2 + 1) e6
              clear h6 hok Fin0 Pge0 Ok4
              generalize it (rdStep d 1 L3) (n2 + 1) rd0 = s3 at *
              obtain ⟨pc3, pg3, left3, word3, t3⟩ := s3
              simp only at e6 hpg
              have hpg' := hpg.symm
              subst e6 hpg'
              have Q := Lib.hid q
              clear q
              go_wp2_with fail
              refine (Q.out).mono ?_
              clear Q kc
              rintro e w16 ⟨vc, rfl, hs⟩
              obtain ⟨acc3, hacc3⟩ : ∃ acc3, acc3 = acc0 + n2 + 1 := ⟨_, rfl⟩
              rw [← hacc3] at hs
              have hacc4 : k < acc3 := by omega
              have hacc5 : acc3 ≤ 400 := by omega
              clear hacc3 hacc1 hacc2 hn
              have hle2 := Po.out.le
              have hlen : pg.sl.length ≤ 1000000 := by omega
              clear hle2 Po
              have hs := hs.b3.tail.b6.b6
              go_upto_region 24 with (fail)
              refine wp_ck hs ?_
              clear hs
              intro W hs
              have hsd := hs.drew
              have kd := hs.b5.k0
              have Qa := Lib.hid (accesses_st hsd.b4.mem)
              have qb := rdPage_st rfl hlen hsd
              dsimp only at qb
              have Qb := Lib.hid qb
              have qd := fun wz F (hz : St (Know.of w) wz (rdC b' d 1 vc ⟨6, pg, left3, word3, t3⟩ :: slC vc pg :: F)) => rdPage_st rfl hlen hz
              dsimp only at qd
              have Qd := Lib.hid qd
              clear hs hsd qb qd
              go_region_with (first
                | (go_at_call 28; refine (Qa.out).mono ?_; rintro e wa ⟨rfl, rfl⟩)
                | (go_at_call 30; have hz := hs2; refine (Qd.out _ _ hs2).mono ?_; rintro e w19 ⟨vy, rfl, hs3⟩; obtain ⟨az, capz, hvz, _, _⟩ := hs3.row_read; subst hvz; have sz := hs3.row_slots (by omega); have sx3 := hs3.b5.row_slots (by omega); have kx3 := hs3.b4.k0)
                | (go_at_call 30; refine (Qb.out).mono ?_; rintro e w17 ⟨vx, rfl, hs1⟩; obtain ⟨ay, capy, hvy, _, _⟩ := hs1.row_read; subst hvy; have hs1 := hs1.drop1.drop1; have sy := hs1.row_slots (by omega); have sx1 := hs1.b5.row_slots (by omega); have kx1 := hs1.b4.k0)
                | (go_at_call 29; have hz := hs3; refine (samePage_any _ sz sx3).mono ?_; rintro e w20 ⟨rfl, hb20⟩; have hs4 := (hs3.same hb20).tail; have kx4 := hs4.b3.k0)
                | (go_at_call 29; refine (samePage_any _ sy sx1).mono ?_; rintro e w18 ⟨rfl, hb18⟩; have hs2 := (hs1.same hb18).tail; have kx2 := hs2.b3.k0))
              all_goals
                go_wp2
                go_ret
                exact ⟨rfl, hs4.below (Know.Le.refl _)⟩
            · rw [decide_eq_false h6] at q
              have hn2 : n2 + 1 ≤ pg.sl.length + 4 := by
                rcases Nat.lt_or_ge (pg.sl.length + 4) (n2 + 1) with h | h
                · have := (Fin0.out (n2 + 1) (by omega)).1
                  omega
                · exact h
              have Q := Lib.hid q
              clear q
              go_wp2_with fail
              refine (Q.out).mono ?_
              clear Q kc
              rintro e w16 ⟨vc, rfl, hs⟩
              go_wp2
              go_roundw
              case rel => exact ⟨n2 + 1, vc, hn2, by go_num, by omega, hs⟩
              case measure => simp [intOf]; omega
        · rw [decide_eq_false h6] at q
          have hn2 : n + 1 ≤ pg.sl.length + 4 := by
            rcases Nat.lt_or_ge (pg.sl.length + 4) (n + 1) with h | h
            · have := (Fin1.out (n + 1) (by omega)).1
              omega
            · exact h
          have Q := Lib.hid q
          clear q
          go_wp2_with fail
          refine (Q.out).mono ?_
          clear Q kc
          rintro e w14 ⟨va1, rfl, hs⟩
          go_wp2
          go_roundw
          case rel => exact ⟨n + 1, va1, hn2, by go_num, by omega, hs⟩
          case measure => simp [intOf]; omega
end Go.Proofs.Ytfgjanponijkhaa
