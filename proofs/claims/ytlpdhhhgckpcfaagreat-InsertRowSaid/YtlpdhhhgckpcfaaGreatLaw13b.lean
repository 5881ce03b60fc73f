
/- The walk of InsertRow. -/
import Derived.Test.YtlpdhhhgckpcfaaGreatRowLaw
import Derived.Test.YtlpdhhhgckpcfaaGreatAw13
import Derived.Test.YtlpdhhhgckpcfaaGreatAw12
namespace Go.Proofs.YtlpdhhhgckpcfaaGreat
open Go.RowKit
set_option maxRecDepth 100000
set_option maxHeartbeats 16000000 in
theorem insertRow_walk (a : Option Addr) (len cap : Nat) (f : Nat → ByteArray) (fanout : Int) (w : World) (hz : StrsIn w a len f) :
    Calls Tryz.prog 7 #[.slice a len cap, .int .i64 fanout] w fun e w' => e = .returned (.bool true) ∧ Below w.heap.size w w' := by
  obtain ⟨d, hd, hfa, hno, hch, Q1, Q2⟩ : ∃ d : Cfg, Hid d.Ok ∧ Hid (d.fa = 4 + fanout % 3) ∧ Hid (d.no = 100) ∧ Hid (d.ch = 100) ∧ Hid (∀ w, Calls Tryz.prog 12 #[.int .i64 1, .int .i64 fanout] w fun e w' => e = .returned (.agg #[.int .i64 (d).th, .int .i64 (d).sn, .int .i64 (d).no, .int .i64 (d).ch, .int .i64 (d).re, .int .i64 (d).fa, .int .u64 (d).cl]) ∧ Below w.heap.size w w') ∧ Hid (∀ w K cs, St K w cs → Calls Tryz.prog 13 #[.agg #[.int .i64 (d).th, .int .i64 (d).sn, .int .i64 (d).no, .int .i64 (d).ch, .int .i64 (d).re, .int .i64 (d).fa, .int .u64 (d).cl]] w fun e w'' => ∃ bm bc, e = .returned (.tuple #[.agg #[.int .i64 (d).th, .int .i64 (d).sn, .int .i64 (d).no, .int .i64 (d).ch, .int .i64 (d).re, .int .i64 (d).fa, .int .u64 (d).cl], (.pointer (some ⟨bm, 0, none⟩))]) ∧ St K w'' (memC bm bc (startL d) 0 :: cs)) :=
    ⟨kitC 1 (4 + fanout % 3) 1000, Lib.hid (kit8_ok fanout), Lib.hid rfl, Lib.hid rfl, Lib.hid rfl, Lib.hid (fun w => kitConfig_any 1 fanout w), Lib.hid (fun w K cs hs => kitMemory_st (kit8_ok fanout) hs)⟩
  have hl := hz.1
  simp only [maxLen] at hl
  have Hz := Lib.hid hz
  obtain ⟨iv, hiv0, hiv1, hiv2, hiv3⟩ := info_parts infoString
  have Hi0 := Lib.hid hiv0
  have Hi1 := Lib.hid hiv1
  have Hi2 := Lib.hid hiv2
  have Hi3 := Lib.hid hiv3
  clear hiv0 hiv1 hiv2 hiv3 hz
  have QA := Lib.hid (fun (W : World) (cs : List Comp) (h : St (Know.of w) W cs) => awake13_st h)
  have HS := Lib.hid (RowI.start hd.out)
  have hs := St.start w
  go_enter Tryz.func7, Tryz.ntmps7
  go_wp2_with fail
  refine (calls_same hs (Q1.out _)).mono ?_
  clear hs
  rintro e w1 ⟨rfl, hs⟩
  have hs := hs.made (.cells #[.int .i64 (d).th, .int .i64 (d).sn, .int .i64 (d).no, .int .i64 (d).ch, .int .i64 (d).re, .int .i64 (d).fa, .int .u64 (d).cl] 26)
  obtain ⟨b0, hb0⟩ : ∃ b, b = w1.heap.size := ⟨_, rfl⟩
  have kc := hs.k0
  go_wp2_with fail
  rw [← hb0] at hs kc ⊢
  clear hb0
  refine (Q2.out _ _ _ hs).mono ?_
  clear hs kc
  rintro e w2 ⟨bm, bc, rfl, hs⟩
  have hs := hs.made (.cells #[.int .i64 (d).th, .int .i64 (d).sn, .int .i64 (d).no, .int .i64 (d).ch, .int .i64 (d).re, .int .i64 (d).fa, .int .u64 (d).cl] 29)
  obtain ⟨b1, hb1⟩ : ∃ b, b = w2.heap.size := ⟨_, rfl⟩
  go_wp2_with fail
  rw [← hb1] at hs ⊢
  clear hb1
  refine (QA.out _ _ hs).mono ?_
  clear hs
  rintro e w3 ⟨rfl, hs⟩
  have hs : St (Know.of w) w3 (memC bm bc (startL d) 0 :: blk b1 (.cells #[.int .i64 (d).th, .int .i64 (d).sn, .int .i64 (d).no, .int .i64 (d).ch, .int .i64 (d).re, .int .i64 (d).fa, .int .u64 (d).cl] 29) :: blk b0 (.cells #[.int .i64 (d).th, .int .i64 (d).sn, .int .i64 (d).no, .int .i64 (d).ch, .int .i64 (d).re, .int .i64 (d).fa, .int .u64 (d).cl] 26) :: []) := hs.b1
  have hs := hs.row_nil (T := 9) (size := 1)
  generalize startL d = L0 at *
  go_upto_region 6 with (fail)
  go_cut [9] from 999 to 0 (fun v wx => v = .int .i64 0 ∧ St (Know.of w) wx (rowC (.slice none 0 0) 9 1 0 [] :: memC bm bc L0 0 :: blk b1 (.cells #[.int .i64 (d).th, .int .i64 (d).sn, .int .i64 (d).no, .int .i64 (d).ch, .int .i64 (d).re, .int .i64 (d).fa, .int .u64 (d).cl] 29) :: blk b0 (.cells #[.int .i64 (d).th, .int .i64 (d).sn, .int .i64 (d).no, .int .i64 (d).ch, .int .i64 (d).re, .int .i64 (d).fa, .int .u64 (d).cl] 26) :: []))
  case first =>
    as_aux_lemma =>
    go_wp2
    go_meet
    exact ⟨rfl, hs⟩
  case rest =>
  clear hs
  obtain ⟨rfl, hs⟩ := hcut
  apply_assumption
  go_cut [8, 9] from 999 to 0 (fun v8 _ wx => ∃ (acc : Nat) (ks : List ByteArray) (L : List Cel) (l : List Nd) (ao : Option Addr) (co : Nat), v8 = .slice ao ks.length co ∧ ks.length ≤ 40 ∧ acc ≤ 240000 ∧ Hid (RowI d L l ks) ∧ St (Know.of w) wx (rowC (.slice ao (ks).length co) 9 1 (ks).length (stRow ks) :: memC bm bc L acc :: blk b1 (.cells #[.int .i64 (d).th, .int .i64 (d).sn, .int .i64 (d).no, .int .i64 (d).ch, .int .i64 (d).re, .int .i64 (d).fa, .int .u64 (d).cl] 29) :: blk b0 (.cells #[.int .i64 (d).th, .int .i64 (d).sn, .int .i64 (d).no, .int .i64 (d).ch, .int .i64 (d).re, .int .i64 (d).fa, .int .u64 (d).cl] 26) :: []))
  case first =>
    go_wp2
    go_loopw [8, 9] (fun v8 v9 wr => ∃ (i acc : Nat) (ks : List ByteArray) (L : List Cel) (l : List Nd) (ao : Option Addr) (co : Nat), v8 = .slice ao ks.length co ∧ v9 = .int .i64 i ∧ i ≤ 40 ∧ i ≤ len ∧ ks.length ≤ i ∧ acc ≤ i * 6000 ∧ Hid (RowI d L l ks) ∧ St (Know.of w) wr (rowC (.slice ao (ks).length co) 9 1 (ks).length (stRow ks) :: memC bm bc L acc :: blk b1 (.cells #[.int .i64 (d).th, .int .i64 (d).sn, .int .i64 (d).no, .int .i64 (d).ch, .int .i64 (d).re, .int .i64 (d).fa, .int .u64 (d).cl] 29) :: blk b0 (.cells #[.int .i64 (d).th, .int .i64 (d).sn, .int .i64 (d).no, .int .i64 (d).ch, .int .i64 (d).re, .int .i64 (d).fa, .int .u64 (d).cl] 26) :: [])) (fun _ v9 _ => 40 - (intOf v9).toNat)
    case atStart => exact ⟨0, 0, [], L0, [nd1], none, 0, rfl, rfl, by omega, by omega, by simp, by omega, HS, hs⟩
    case round =>
      clear hs HS
      obtain ⟨i, acc, ks, L, l, ao, co, rfl, rfl, hi40, hil, hki, hacc, HR, hs⟩ := hrel
      by_cases hin : i < len ∧ i < 40
      · obtain ⟨h1, h2⟩ := hin
        obtain ⟨qb, qoff, rfl, hqlt, kq, hsz⟩ := Hz.out.2 i h1
        rw [← (hs.below (Know.Le.refl _)).cell (p := ⟨qb, _, none⟩) hqlt] at kq
        simp only [maxLen] at hsz
        generalize f i = y at kq hsz
        go_upto_region 9 with (fail)
        go_cut [10] from 43 to 64 (fun v wx => ∃ key : ByteArray, v = .string key ∧ Hid (key.size ≤ 32) ∧ St (Know.of w) wx (rowC (.slice ao (ks).length co) 9 1 (ks).length (stRow ks) :: memC bm bc L acc :: blk b1 (.cells #[.int .i64 (d).th, .int .i64 (d).sn, .int .i64 (d).no, .int .i64 (d).ch, .int .i64 (d).re, .int .i64 (d).fa, .int .u64 (d).cl] 29) :: blk b0 (.cells #[.int .i64 (d).th, .int .i64 (d).sn, .int .i64 (d).no, .int .i64 (d).ch, .int .i64 (d).re, .int .i64 (d).fa, .int .u64 (d).cl] 26) :: []))
        case first =>
          as_aux_lemma =>
          refine region_pure (by kernel_rfl) (by kernel_rfl) ?_
          by_cases h32 : y.size ≤ 32
          · repeat (go_big_quiet_step (fail))
            refine wpQuiet_nil ?_
            intro w4 hb4
            have hs := hs.same hb4
            clear kq hb4
            go_wp2
            go_meet
            exact ⟨_, rfl, Lib.hid h32, hs⟩
          · have h32' : ¬ ((y.size : Int) ≤ 32) := by omega
            repeat (go_big_quiet_step (fail))
            refine wpQuiet_nil ?_
            intro w4 hb4
            have hs := hs.same hb4
            clear kq hb4
            go_wp2
            go_meet
            exact ⟨_, rfl, Lib.hid (by rw [ByteArray.size_extract]; omega), hs⟩
        case rest =>
        clear hs kq hqlt
        obtain ⟨key, rfl, Hkz, hs⟩ := hcut
        apply_assumption
        have kl := hs.k2
        have q := newLock_st (d := d) (key := key) (level := ((0 : Nat) : Int)) hs.b1
        have Q := Lib.hid q
        clear hs q
        go_wp2_with fail
        refine (Q.out).mono ?_
        clear Q kl
        rintro e w5 ⟨b, C0, rfl, hr0, hs⟩
        have ho : LoOn (Know.of w) b bm bc d L key (0 : Nat) (rowC (.slice ao (ks).length co) 9 1 (ks).length (stRow ks) :: blk b1 (.cells #[.int .i64 (d).th, .int .i64 (d).sn, .int .i64 (d).no, .int .i64 (d).ch, .int .i64 (d).re, .int .i64 (d).fa, .int .u64 (d).cl] 29) :: blk b0 (.cells #[.int .i64 (d).th, .int .i64 (d).sn, .int .i64 (d).no, .int .i64 (d).ch, .int .i64 (d).re, .int .i64 (d).fa, .int .u64 (d).cl] 26) :: []) lok0 acc w5 := ⟨C0, hr0, hs⟩
        clear hs hr0
        go_upto_region 11 with (fail)
        go_cut [12] from 999 to 0 (fun v wx => v = .int .i64 0 ∧ LoOn (Know.of w) b bm bc d L key (0 : Nat) (rowC (.slice ao (ks).length co) 9 1 (ks).length (stRow ks) :: blk b1 (.cells #[.int .i64 (d).th, .int .i64 (d).sn, .int .i64 (d).no, .int .i64 (d).ch, .int .i64 (d).re, .int .i64 (d).fa, .int .u64 (d).cl] 29) :: blk b0 (.cells #[.int .i64 (d).th, .int .i64 (d).sn, .int .i64 (d).no, .int .i64 (d).ch, .int .i64 (d).re, .int .i64 (d).fa, .int .u64 (d).cl] 26) :: []) lok0 acc wx)
        case first =>
          as_aux_lemma =>
          go_wp2
          go_meet
          exact ⟨rfl, ho⟩
        case rest =>
        clear ho
        obtain ⟨rfl, ho⟩ := hcut
        apply_assumption
        go_cut [12] from 999 to 0 (fun _ wx => ∃ (acc' : Nat) (nd : Nd) (a0 : Option Addr) (c0 : Nat), acc' ≤ acc + 5000 ∧ Hid (Cover [l] key 0 nd) ∧ St (Know.of w) wx (blk b (.cells (.nilFunc :: .bool true :: lkTl d key (⟨nd.id, ltLock (latW d L nd), nd.pg⟩ : InH) (.slice a0 nd.pg.sl.length c0)).toArray 125) :: slC (.slice a0 nd.pg.sl.length c0) nd.pg :: memC bm bc (latL d L nd) acc' :: rowC (.slice ao (ks).length co) 9 1 (ks).length (stRow ks) :: blk b1 (.cells #[.int .i64 (d).th, .int .i64 (d).sn, .int .i64 (d).no, .int .i64 (d).ch, .int .i64 (d).re, .int .i64 (d).fa, .int .u64 (d).cl] 29) :: blk b0 (.cells #[.int .i64 (d).th, .int .i64 (d).sn, .int .i64 (d).no, .int .i64 (d).ch, .int .i64 (d).re, .int .i64 (d).fa, .int .u64 (d).cl] 26) :: []))
        case first =>
          as_aux_lemma =>
          go_wp2
          go_loopw [12] (fun vn wr => ∃ (n m : Nat) (s : LkS), n + m ≤ 4000 ∧ vn = .int .i64 n ∧ s.pc ≠ 4 ∧ Hid (∃ L1, LoI d L [l] key 0 s L1 m ∧ LoOn (Know.of w) b bm bc d L1 key (0 : Nat) (rowC (.slice ao (ks).length co) 9 1 (ks).length (stRow ks) :: blk b1 (.cells #[.int .i64 (d).th, .int .i64 (d).sn, .int .i64 (d).no, .int .i64 (d).ch, .int .i64 (d).re, .int .i64 (d).fa, .int .u64 (d).cl] 29) :: blk b0 (.cells #[.int .i64 (d).th, .int .i64 (d).sn, .int .i64 (d).no, .int .i64 (d).ch, .int .i64 (d).re, .int .i64 (d).fa, .int .u64 (d).cl] 26) :: []) s (acc + n) wr)) (fun v _ => 4000 - (intOf v).toNat)
          case atStart =>
            have hns : nodeSteps d ≤ 11 := by unfold nodeSteps; have := hfa.out; omega
            have hcn : ([l].map List.length).sum ≤ 41 := by have h1 := HR.out.tr.count; have h2 := HR.out.n4; omega
            have hc := Nat.mul_le_mul hcn hns
            exact ⟨0, 1000, lok0, by omega, rfl, by decide, Lib.hid ⟨L, LoI.start 1000 (by have := hfa.out; omega), ho⟩⟩
          case round =>
            clear ho
            obtain ⟨n, m, s, hnm, rfl, hpc, HI⟩ := hrel
            obtain ⟨L1, hI, ho⟩ := HI.out
            obtain ⟨g1, g2, g3, g4, g5⟩ := hI.step hd.out HR.out.cels HR.out.clen HR.out.tr hpc
            have q := lockStep_on hd.out g4 (by omega) g2 g3 ho
            generalize (lokStep d key ((0 : Nat) : Int) L1 s).2 = L2 at *
            generalize (lokStep d key ((0 : Nat) : Int) L1 s).1 = s' at *
            have hn5 : (n : Int) < 5000 := by omega
            clear ho g2 g3 g4 hI HI
            by_cases hp : 4 ≤ s'.pc
            · rw [decide_eq_true hp] at q
              have Q := Lib.hid q
              clear q
              obtain ⟨h4, nd, hc, hh, hL2⟩ : s'.pc = 4 ∧ ∃ nd, Cover [l] key 0 nd ∧ s'.h = ⟨nd.id, ltLock (latW d L nd), nd.pg⟩ ∧ L2 = latL d L nd := by
                rcases g5 with ⟨h, _⟩ | ⟨h, _⟩ | ⟨h, _⟩ | ⟨h, ⟨nd, h1, h2, h3⟩ | ⟨h1, _⟩⟩
                · omega
                · omega
                · omega
                · exact ⟨h, nd, h1, h2, h3⟩
                · simp at h1
              have H4 := Lib.hid h4
              have Hh := Lib.hid hh
              have HL2 := Lib.hid hL2
              have Hc := Lib.hid hc
              clear g5 hp h4 hh hL2 hc
              go_wp2_with fail
              refine (Q.out).mono ?_
              clear Q
              rintro e w6 ⟨rfl, ho⟩
              have ho := ho.done H4.out
              rw [Hh.out, HL2.out] at ho
              obtain ⟨a0, c0, hs⟩ := ho
              go_wp2
              go_meet
              exact ⟨acc + n + 1, nd, a0, c0, by omega, Hc, hs⟩
            · rw [decide_eq_false hp] at q
              have Q := Lib.hid q
              have HL := Lib.hid g5
              clear q g5
              go_wp2_with fail
              refine (Q.out).mono ?_
              clear Q
              rintro e w6 ⟨rfl, ho⟩
              go_wp2
              go_roundw
              case rel => exact ⟨n + 1, m - 1, s', by omega, by go_num, by omega, Lib.hid ⟨L2, HL.out, by rw [show acc + (n + 1) = acc + n + 1 by omega]; exact ho⟩⟩
              case measure => simp [intOf]; omega
        case rest =>
        clear ho
        obtain ⟨acc1, nd, a0, c0, hacc1, Hc, hs⟩ := hcut
        apply_assumption
        have hmemN : nd ∈ l := by obtain ⟨l0, j0, e1, e2, _⟩ := Hc.out; obtain rfl : l0 = l := by simpa using e1.symm
                                  exact List.mem_of_getElem? e2
        have HN := Lib.hid (HR.out.nd hmemN)
        have hks40 : ks.length ≤ 40 := by omega
        have Hfrok := Lib.hid (HR.out.frok hd.out (by omega) hmemN)
        have Hmem := Lib.hid hmemN
        obtain ⟨wd, hwd⟩ : ∃ wd, wd = ltLock (latW d L nd) := ⟨_, rfl⟩
        have Hwd := Lib.hid hwd
        have hpl : nd.pg.sl.length ≤ 1000000 := by have := HN.out.page.le; have := hd.out.fa2; omega
        have hid1 : (nd.id == 0) = false := by have := HN.out.id.1; simp; omega
        have Hid1 := Lib.hid hid1
        rw [← hwd] at hs Hfrok
        have q := lockHeld_st (h := (⟨nd.id, wd, nd.pg⟩ : InH)) hpl hs
        have Q := Lib.hid q
        clear q hs hwd hmemN
        go_wp2_with fail
        refine (Q.out).mono ?_
        clear Q
        rintro e w7 ⟨va, rfl, hs⟩
        obtain ⟨ah, ch, rfl, _, _⟩ := (show St (Know.of w) w7 (rowC va 69 2 nd.pg.sl.length (slRow nd.pg.sl) :: _) from hs).row_read
        have hs := hs.made (.cells #[.int .u64 ((⟨nd.id, wd, nd.pg⟩ : InH)).id, .int .u64 ((⟨nd.id, wd, nd.pg⟩ : InH)).word, .int .i64 ((⟨nd.id, wd, nd.pg⟩ : InH)).pg.lev, (.slice ah nd.pg.sl.length ch), .string ((⟨nd.id, wd, nd.pg⟩ : InH)).pg.hi, .bool ((⟨nd.id, wd, nd.pg⟩ : InH)).pg.la, .int .u64 ((⟨nd.id, wd, nd.pg⟩ : InH)).pg.ri] 45)
        obtain ⟨b13, hb13⟩ : ∃ b, b = w7.heap.size := ⟨_, rfl⟩
        go_upto_region 15 with (fail)
        rw [← hb13] at hs ⊢
        clear hb13
        refine wp_ck hs ?_
        clear hs
        intro w8 hs
        have hs : St (Know.of w) w8 (blk b13 (.cells #[.int .u64 ((⟨nd.id, wd, nd.pg⟩ : InH)).id, .int .u64 ((⟨nd.id, wd, nd.pg⟩ : InH)).word, .int .i64 ((⟨nd.id, wd, nd.pg⟩ : InH)).pg.lev, (.slice ah nd.pg.sl.length ch), .string ((⟨nd.id, wd, nd.pg⟩ : InH)).pg.hi, .bool ((⟨nd.id, wd, nd.pg⟩ : InH)).pg.la, .int .u64 ((⟨nd.id, wd, nd.pg⟩ : InH)).pg.ri] 45) :: slC (.slice ah nd.pg.sl.length ch) nd.pg :: memC bm bc (latL d L nd) acc1 :: rowC (.slice ao (ks).length co) 9 1 (ks).length (stRow ks) :: blk b1 (.cells #[.int .i64 (d).th, .int .i64 (d).sn, .int .i64 (d).no, .int .i64 (d).ch, .int .i64 (d).re, .int .i64 (d).fa, .int .u64 (d).cl] 29) :: blk b0 (.cells #[.int .i64 (d).th, .int .i64 (d).sn, .int .i64 (d).no, .int .i64 (d).ch, .int .i64 (d).re, .int .i64 (d).fa, .int .u64 (d).cl] 26) :: []) := (hs.re [2, 3, 0, 1, 4, 5, 6, 7] rfl).tail.tail
        have hsl := (show St (Know.of w) w8 (rowC _ _ _ _ (slRow nd.pg.sl) :: _) from hs.b1).row_slots (by omega)
        have qf := refFind_any (cap := ch) (key := key) w8 hsl
        have kh := hs.k0
        cases hany : (nd.pg.sl.any fun s => s.k.toList == key.toList) with
        | true =>
          rw [hany] at qf
          have QF := Lib.hid qf
          clear qf hsl hany
          go_wp2_with fail
          refine (calls_same hs QF.out).mono ?_
          clear hs kh QF
          rintro e w9 ⟨rfl, hs⟩
          have kh := hs.k0
          have kc := hs.b5.k0
          have hid1 := Hid1.out
          go_upto_region 19 with (fail)
          refine region_tail 6 (by kernel_rfl) (by as_aux_lemma => kernel_rfl) ?_
          simp only [List.take_succ_cons, List.take_zero, List.drop_succ_cons, List.drop_zero]
          have QN := Lib.hid (fun W => refNode_any d hd.out nd.id 0 (by have := HN.out.id; omega) (by have := HN.out.id; have := hd.out.no2; omega) (by omega) (by have := hd.out.fa1; omega) W)
          repeat (go_big_quiet_step ((go_at_call 21; exact pure_of (QN.out _))))
          refine wpQuiet_nil ?_
          intro w10 hb10
          have hs := hs.same hb10
          clear kh kc hb10 QN hid1
          have hs := (hs.tail.tail)
          go_wp2_with fail
          refine (newRelease_st hs).mono ?_
          clear hs
          rintro e w11 ⟨br, bi, bw, rfl, hs⟩
          have hwb := Hfrok.out.word
          have hs : St (Know.of w) w11 (relL br bi bw (d.node nd.id 0) wd 0 ++ memC bm bc (latL d L nd) acc1 :: (rowC (.slice ao (ks).length co) 9 1 (ks).length (stRow ks) :: blk b1 (.cells #[.int .i64 (d).th, .int .i64 (d).sn, .int .i64 (d).no, .int .i64 (d).ch, .int .i64 (d).re, .int .i64 (d).fa, .int .u64 (d).cl] 29) :: blk b0 (.cells #[.int .i64 (d).th, .int .i64 (d).sn, .int .i64 (d).no, .int .i64 (d).ch, .int .i64 (d).re, .int .i64 (d).fa, .int .u64 (d).cl] 26) :: [])) := hs
          have q := relStep_st hwb (by omega) hs
          have Q := Lib.hid q
          clear q hs hwb
          go_wp2_with fail
          refine (Q.out).mono ?_
          clear Q
          rintro e w12 ⟨rfl, hs⟩
          have e1 : putC (latL d L nd) (d.node nd.id 0) ⟨ltUnlock wd, ⟨#[]⟩, 0⟩ = L := by
            rw [Hwd.out]
            exact relL_same hd.out HR.out.clen HN.out.id.1 HN.out.id.2 HN.out.free
          rw [e1] at hs
          clear e1
          have hs : St (Know.of w) w12 (rowC (.slice ao (ks).length co) 9 1 (ks).length (stRow ks) :: memC bm bc L (acc1 + 1) :: blk b1 (.cells #[.int .i64 (d).th, .int .i64 (d).sn, .int .i64 (d).no, .int .i64 (d).ch, .int .i64 (d).re, .int .i64 (d).fa, .int .u64 (d).cl] 29) :: blk b0 (.cells #[.int .i64 (d).th, .int .i64 (d).sn, .int .i64 (d).no, .int .i64 (d).ch, .int .i64 (d).re, .int .i64 (d).fa, .int .u64 (d).cl] 26) :: []) := hs.tail.tail.tail.b1
          go_wp2
          go_roundw
          case rel => exact ⟨i + 1, acc1 + 1, ks, L, l, ao, co, rfl, by go_num, by omega, by omega, by omega, by omega, HR, hs⟩
          case measure => simp [intOf]; omega
        | false =>
          rw [hany] at qf
          have QF := Lib.hid qf
          obtain ⟨hno1, hno2⟩ := any_no HN.out.asc hany
          have Hno1 := Lib.hid hno1
          have Hno2 := Lib.hid hno2
          clear qf hsl hany hno1 hno2
          go_wp2_with fail
          refine (calls_same hs QF.out).mono ?_
          clear hs kh QF
          rintro e w9 ⟨rfl, hs⟩
          have kh := hs.k0
          have hid1 := Hid1.out
          go_upto_region 21 with (fail)
          clear hid1
          have hs := hs.b3
          go_wp2_with (at_builtin; refine append_st _ _ 22 9 _ ks.length 1 16 _ [.string key] (.string ⟨#[]⟩) iv hs rfl rfl Tryz.underlying22 Hi0.out Hi1.out Hi2.out Hi3.out rfl (by decide) rfl rfl rfl (fun u hu => by simp at hu; subst hu; rfl) (by omega) (by decide) ?_)
          clear hs kh
          intro v' w' hs
          obtain ⟨ao2, co2, hv, _, _⟩ := hs.row_read
          subst hv
          have hs := hs.row_eq (ys := stRow (ks ++ [key])) (by rw [stRow_push])
          have kh := hs.k1
          have kl := hs.b4.k0
          have hs : St (Know.of w) w' (slC (.slice ah nd.pg.sl.length ch) nd.pg :: memC bm bc (latL d L nd) acc1 :: (rowC (.slice ao2 ((ks ++ [key])).length co2) 9 1 ((ks ++ [key])).length (stRow (ks ++ [key])) :: blk b1 (.cells #[.int .i64 (d).th, .int .i64 (d).sn, .int .i64 (d).no, .int .i64 (d).ch, .int .i64 (d).re, .int .i64 (d).fa, .int .u64 (d).cl] 29) :: blk b0 (.cells #[.int .i64 (d).th, .int .i64 (d).sn, .int .i64 (d).no, .int .i64 (d).ch, .int .i64 (d).re, .int .i64 (d).fa, .int .u64 (d).cl] 26) :: [])) := by
            have h := hs.re [2, 3, 0, 4, 5, 1] rfl
            rw [List.length_append, List.length_singleton]
            exact h.sub (.cons_cons _ (.cons_cons _ (.cons_cons _ (.cons_cons _ (.cons_cons _ (.cons _ (List.Sublist.refl _)))))))
          obtain ⟨fu, hfu⟩ : ∃ fu, fu = insPg nd.pg key ((ks.length + 1 : Nat) : Int) := ⟨_, rfl⟩
          have hfuok : FuOk d (⟨nd.id, wd, nd.pg⟩ : InH) fu := by
            rw [hfu]
            exact FuOk.ins Hfrok.out.pg (fun s hs => by have := HR.out.ksz _ (keySl_mem (HR.out.mem Hmem.out hs)).1; omega) (by have := Hkz.out; omega) (by omega)
          have hful : fu.sl.length ≤ 33 := by have := hfuok.len; have := hd.out.fa2; omega
          have q := newInsert_at (key := key) (ref := ((ks.length + 1 : Nat) : Int)) hd.out Hfrok.out hfu Hno1.out HN.out.asc hfuok hs
          have Q := Lib.hid q
          have Hfu := Lib.hid hfu
          have Hfuok := Lib.hid hfuok
          have hw2 : IntKind.u64.wrap ((ks.length + 1 : Nat) : Int) = ((ks.length + 1 : Nat) : Int) := by rw [IntKind.wrap_u64]; omega
          clear q hs hfu hfuok
          go_wp2_with fail
          refine (Q.out).mono ?_
          clear Q kh kl hw2
          rintro e w10 ⟨bx, au, cu, rfl, h⟩
          go_upto_region 23 with (fail)
          go_cut [18] from 999 to 0 (fun v wx => v = .int .i64 0 ∧ InAt (Know.of w) wx bx bm bc d (⟨nd.id, wd, nd.pg⟩ : InH) (.slice ah nd.pg.sl.length ch) fu (.slice au fu.sl.length cu) (latL d L nd) (rowC (.slice ao2 ((ks ++ [key])).length co2) 9 1 ((ks ++ [key])).length (stRow (ks ++ [key])) :: blk b1 (.cells #[.int .i64 (d).th, .int .i64 (d).sn, .int .i64 (d).no, .int .i64 (d).ch, .int .i64 (d).re, .int .i64 (d).fa, .int .u64 (d).cl] 29) :: blk b0 (.cells #[.int .i64 (d).th, .int .i64 (d).sn, .int .i64 (d).no, .int .i64 (d).ch, .int .i64 (d).re, .int .i64 (d).fa, .int .u64 (d).cl] 26) :: []) acc1 (2 * fu.sl.length + 11))
          case first =>
            as_aux_lemma =>
            go_wp2
            go_meet
            exact ⟨rfl, h⟩
          case rest =>
          clear h
          obtain ⟨rfl, h⟩ := hcut
          apply_assumption
          go_cut [18] from 999 to 0 (fun _ wx => ∃ (acc2 : Nat) (x : InX) (L' : List Cel) (p : Pg), acc2 ≤ acc1 + 500 ∧ Hid (OutOk d (⟨nd.id, wd, nd.pg⟩ : InH) fu (latL d L nd) x L' p (decide (d.fa < (fu.sl.length : Int)))) ∧ St (Know.of w) wx (insC bx .nilFunc d x :: slC x.vl x.le.pg :: slC x.vr x.ri.pg :: memC bm bc L' acc2 :: rowC (.slice ao2 ((ks ++ [key])).length co2) 9 1 ((ks ++ [key])).length (stRow (ks ++ [key])) :: blk b1 (.cells #[.int .i64 (d).th, .int .i64 (d).sn, .int .i64 (d).no, .int .i64 (d).ch, .int .i64 (d).re, .int .i64 (d).fa, .int .u64 (d).cl] 29) :: blk b0 (.cells #[.int .i64 (d).th, .int .i64 (d).sn, .int .i64 (d).no, .int .i64 (d).ch, .int .i64 (d).re, .int .i64 (d).fa, .int .u64 (d).cl] 26) :: []))
          case first =>
            as_aux_lemma =>
            have hno2 := hd.out.no2
            have hL1 : ((latL d L nd).length : Int) = d.cells := by unfold latL; rw [putC_length]; exact HR.out.clen
            have hid := HN.out.id
            have e4 : getC (latL d L nd) 4 = getC L 4 := getC_ne (node_not4 hd.out hid.1 hid.2 0 (by omega) (by have := hd.out.fa1; omega))
            have hx1 : Holds (latL d L nd) (pgPts d nd.id nd.pg) := HN.out.hold.frame hd.out hid.1 hid.2 HN.out.page.le (fun k a b => getC_ne (node_ne hd.out hid.1 hid.2 (by omega) b (by omega) (by have := hd.out.fa1; omega) (by omega)))
            have hnu := HR.out.tr.used 0 l rfl nd Hmem.out
            have h40 := (HR.out.cels 4).1
            have hn4 := HR.out.n4
            have hnw : newId (latL d L nd) = newId L := latL_new hd.out hid.1 hid.2
            have hn0 : newId L = (getC L 4).n + 1 := rfl
            have hfull : decide (d.no < newId (latL d L nd)) = false := by rw [hnw, hno.out]; exact decide_eq_false (by omega)
            have HL1 := Lib.hid hL1
            have HE4 := Lib.hid e4
            have HX1 := Lib.hid hx1
            have Hnu := Lib.hid hnu
            have H40 := Lib.hid h40
            have Hfull := Lib.hid hfull
            clear hno2 hL1 hid e4 hx1 hnu h40 hn4 hnw hn0 hfull
            go_wp2
            go_loopw [18] (fun v wr => ∃ (j r : Nat), j + r ≤ 100 ∧ v = .int .i64 j ∧ InAt (Know.of w) wr bx bm bc d (⟨nd.id, wd, nd.pg⟩ : InH) (.slice ah nd.pg.sl.length ch) fu (.slice au fu.sl.length cu) (latL d L nd) (rowC (.slice ao2 ((ks ++ [key])).length co2) 9 1 ((ks ++ [key])).length (stRow (ks ++ [key])) :: blk b1 (.cells #[.int .i64 (d).th, .int .i64 (d).sn, .int .i64 (d).no, .int .i64 (d).ch, .int .i64 (d).re, .int .i64 (d).fa, .int .u64 (d).cl] 29) :: blk b0 (.cells #[.int .i64 (d).th, .int .i64 (d).sn, .int .i64 (d).no, .int .i64 (d).ch, .int .i64 (d).re, .int .i64 (d).fa, .int .u64 (d).cl] 26) :: []) (acc1 + j) r) (fun v _ => 200 - (intOf v).toNat)
            case atStart => exact ⟨0, _, by omega, rfl, h⟩
            case round =>
              clear h
              obtain ⟨j, r, hj, rfl, h⟩ := hrel
              have q := insGo hd.out Hfrok.out Hfuok.out (by rw [HE4.out]; exact H40.out) HL1.out (by omega) h
              have Q := Lib.hid q
              clear q h
              have hj5 : (j : Int) < 500 := by omega
              go_wp2_with fail
              refine (Q.out).mono ?_
              clear Q hj5
              rintro e w11 (⟨r', hr, rfl, h⟩ | ⟨rfl, h⟩)
              · go_wp2
                go_roundw
                case rel => exact ⟨j + 1, r', by omega, by go_num, by rw [show acc1 + (j + 1) = acc1 + j + 1 by omega]; exact h⟩
                case measure => simp [intOf]; omega
              · obtain ⟨x, L', p, full, RX, hs, hfull, HO⟩ := ins_out hd.out Hfrok.out Hfuok.out (by rw [HE4.out]; exact Hnu.out) HL1.out HX1.out h
                rw [Hfull.out, Bool.and_false] at hfull
                clear h
                rcases HO with ⟨_, HO, rfl⟩ | ⟨h, _⟩
                · have HO := Lib.hid HO
                  have hs : St (Know.of w) w11 (insC bx .nilFunc d x :: memC bm bc L' (acc1 + j + 1) :: slC (.slice ah nd.pg.sl.length ch) nd.pg :: (rowC (.slice ao2 ((ks ++ [key])).length co2) 9 1 ((ks ++ [key])).length (stRow (ks ++ [key]))) :: blk b1 (.cells #[.int .i64 (d).th, .int .i64 (d).sn, .int .i64 (d).no, .int .i64 (d).ch, .int .i64 (d).re, .int .i64 (d).fa, .int .u64 (d).cl] 29) :: blk b0 (.cells #[.int .i64 (d).th, .int .i64 (d).sn, .int .i64 (d).no, .int .i64 (d).ch, .int .i64 (d).re, .int .i64 (d).fa, .int .u64 (d).cl] 26) :: slC x.vl x.le.pg :: slC x.vr x.ri.pg :: []) := hs
                  have hs := (hs.re [2, 0, 6, 7, 1, 3, 4, 5] rfl).tail
                  clear hfull
                  go_wp2
                  go_meet
                  exact ⟨acc1 + j + 1, x, L', p, by omega, HO, hs⟩
                · rw [hfull] at h; cases h
          case rest =>
          clear h
          obtain ⟨acc2, x, L', p, hacc2, HO, hs⟩ := hcut
          apply_assumption
          go_wp2_with fail
          refine (insErrO HO.out hs).mono ?_
          rintro e w11 ⟨rfl, rfl⟩
          have hp33 : (p.sl.length : Int) ≤ d.fa := by
            rw [HO.out.pp]
            cases hsp : decide (d.fa < (fu.sl.length : Int)) with
            | true => exact (Hfuok.out.left hd.out (id := newId (latL d L nd)) (by have := HO.out.new hsp; have := hd.out.no2; have h40 := (HR.out.cels 4).1; have hnw : newId (latL d L nd) = newId L := latL_new hd.out HN.out.id.1 HN.out.id.2; have hn0 : newId L = (getC L 4).n + 1 := rfl; omega)).le
            | false => have := of_decide_eq_false hsp; show (fu.sl.length : Int) ≤ d.fa; omega
          have hr33 : (splR fu).sl.length ≤ 1000000 := by have := (Hfuok.out.right hd.out).le; have := hd.out.fa2; omega
          obtain ⟨ri, hri⟩ : ∃ ri, ri = x.ri := ⟨_, rfl⟩
          have hrl : ri.pg.sl.length ≤ 1000000 := by
            rw [hri, HO.out.ri]
            split
            · exact hr33
            · show hd0.pg.sl.length ≤ _; decide
          have hri2 : ri = if decide (d.fa < (fu.sl.length : Int)) then ⟨newId (latL d L nd), ltLock 0, splR fu⟩ else hd0 := by rw [hri, HO.out.ri]
          have Hri := Lib.hid hri2
          have Hp33 := Lib.hid hp33
          have q := insLeftO HO.out (by have := hd.out.fa2; omega) hs
          have Q := Lib.hid q
          clear q hs hp33 hri2
          go_wp2_with fail
          refine (Q.out).mono ?_
          clear Q
          rintro e w12 ⟨va, rfl, hs⟩
          obtain ⟨av, cv, rfl, _, _⟩ := (show St (Know.of w) w12 (rowC va 69 2 p.sl.length (slRow p.sl) :: _) from hs).row_read
          obtain ⟨arr, crr, hvr⟩ := HO.out.vr
          have q := insRight_st HO.out.on (by rw [← hri]; exact hrl) hvr (hs.re [1, 3, 0, 2, 4, 5, 6, 7] rfl)
          rw [← hri] at q
          have Q := Lib.hid q
          clear q hs hvr hri hrl hr33
          go_wp2_with fail
          refine (Q.out).mono ?_
          clear Q
          rintro e w13 ⟨va2, rfl, hs⟩
          obtain ⟨aw, cw, rfl, _, _⟩ := (show St (Know.of w) w13 (rowC va2 69 2 ri.pg.sl.length (slRow ri.pg.sl) :: _) from hs).row_read
          have hs : St (Know.of w) w13 (memC bm bc L' acc2 :: rowC (.slice ao2 ((ks ++ [key])).length co2) 9 1 ((ks ++ [key])).length (stRow (ks ++ [key])) :: blk b1 (.cells #[.int .i64 (d).th, .int .i64 (d).sn, .int .i64 (d).no, .int .i64 (d).ch, .int .i64 (d).re, .int .i64 (d).fa, .int .u64 (d).cl] 29) :: blk b0 (.cells #[.int .i64 (d).th, .int .i64 (d).sn, .int .i64 (d).no, .int .i64 (d).ch, .int .i64 (d).re, .int .i64 (d).fa, .int .u64 (d).cl] 26) :: []) := (hs.re [0, 1, 2, 3, 4, 5, 6, 7, 8] rfl).tail.tail.tail.tail.tail
          have hs := hs.made (.cells #[.int .u64 nd.id, .int .u64 (ltEnd (ltBegin wd)), .int .i64 p.lev, .slice av p.sl.length cv, .string p.hi, .bool p.la, .int .u64 p.ri, .int .u64 ri.id, .int .u64 ri.word, .int .i64 ri.pg.lev, .slice aw ri.pg.sl.length cw, .string ri.pg.hi, .bool ri.pg.la, .int .u64 ri.pg.ri] 45)
          obtain ⟨b33, hb33⟩ : ∃ b, b = w13.heap.size := ⟨_, rfl⟩
          go_wp2
          rw [← hb33] at hs ⊢
          clear hb33
          go_loopw [135] (fun v wr => ∃ (j acc3 : Nat) (LJ : List Cel), v = .int .i64 j ∧ j ≤ 2 ∧ acc3 ≤ acc2 + j ∧ Hid (LJ = (match j with | 0 => L' | 1 => putC L' (d.node nd.id 0) ⟨ltUnlock (ltEnd (ltBegin wd)), ⟨#[]⟩, 0⟩ | _ => relMem d L L' nd (ltEnd (ltBegin wd)) (decide (d.fa < (fu.sl.length : Int))))) ∧ St (Know.of w) wr (blk b33 (.cells #[.int .u64 nd.id, .int .u64 (ltEnd (ltBegin wd)), .int .i64 p.lev, .slice av p.sl.length cv, .string p.hi, .bool p.la, .int .u64 p.ri, .int .u64 ri.id, .int .u64 ri.word, .int .i64 ri.pg.lev, .slice aw ri.pg.sl.length cw, .string ri.pg.hi, .bool ri.pg.la, .int .u64 ri.pg.ri] 45) :: memC bm bc LJ acc3 :: rowC (.slice ao2 ((ks ++ [key])).length co2) 9 1 ((ks ++ [key])).length (stRow (ks ++ [key])) :: blk b1 (.cells #[.int .i64 (d).th, .int .i64 (d).sn, .int .i64 (d).no, .int .i64 (d).ch, .int .i64 (d).re, .int .i64 (d).fa, .int .u64 (d).cl] 29) :: blk b0 (.cells #[.int .i64 (d).th, .int .i64 (d).sn, .int .i64 (d).no, .int .i64 (d).ch, .int .i64 (d).re, .int .i64 (d).fa, .int .u64 (d).cl] 26) :: [])) (fun v _ => 2 - (intOf v).toNat)
          case atStart => exact ⟨0, acc2, L', rfl, by omega, by omega, Lib.hid rfl, hs⟩
          case round =>
            clear hs
            obtain ⟨j, acc3, LJ, rfl, hj, hacc3, HLJ, hs⟩ := hrel
            have hwl : 0 ≤ ltEnd (ltBegin wd) ∧ ltEnd (ltBegin wd) < 18446744073709551616 := by rw [Hwd.out]; exact (ltEnd_mod HN.out.free.n).2
            have hidd := HN.out.id
            have hno2 := hd.out.no2
            have hfa1 := hd.out.fa1
            have Hwl := Lib.hid hwl
            have k33 := hs.k0
            rcases (by omega : j = 0 ∨ j = 1 ∨ j = 2) with rfl | rfl | rfl
            · as_aux_lemma =>
              have z : (nd.id != 0) = true := by simp; omega
              have hwb := Hwl.out
              have QN := Lib.hid (fun W => refNode_any d hd.out nd.id 0 (by omega) (by omega) (by omega) (by omega) W)
              clear hwl hidd hno2 hfa1
              have hs := hs.made (.cells #[.int .u64 nd.id, .int .u64 (ltEnd (ltBegin wd)), .int .i64 p.lev, .slice av p.sl.length cv, .string p.hi, .bool p.la, .int .u64 p.ri] 45)
              obtain ⟨b20, hb20⟩ : ∃ b, b = wr.heap.size := ⟨_, rfl⟩
              go_upto_region 32 with (fail)
              rw [← hb20] at hs ⊢
              clear hb20
              have kh := hs.k0
              have kc := hs.b5.k0
              refine region_tail 6 (by kernel_rfl) (by as_aux_lemma => kernel_rfl) ?_
              simp only [List.take_succ_cons, List.take_zero, List.drop_succ_cons, List.drop_zero]
              repeat (go_big_quiet_step ((go_at_call 21; exact pure_of (QN.out _))))
              refine wpQuiet_nil ?_
              intro w15 hb15
              have hs := hs.same hb15
              clear kh kc k33 z hb15 QN
              have hs := hs.tail
              go_wp2_with fail
              refine (newRelease_st hs).mono ?_
              clear hs
              rintro e w16 ⟨br, bi, bw, rfl, hs⟩
              have hs : St (Know.of w) w16 (relL br bi bw (d.node nd.id 0) (ltEnd (ltBegin wd)) 0 ++ memC bm bc LJ acc3 :: (blk b33 (.cells #[.int .u64 nd.id, .int .u64 (ltEnd (ltBegin wd)), .int .i64 p.lev, .slice av p.sl.length cv, .string p.hi, .bool p.la, .int .u64 p.ri, .int .u64 ri.id, .int .u64 ri.word, .int .i64 ri.pg.lev, .slice aw ri.pg.sl.length cw, .string ri.pg.hi, .bool ri.pg.la, .int .u64 ri.pg.ri] 45) :: rowC (.slice ao2 ((ks ++ [key])).length co2) 9 1 ((ks ++ [key])).length (stRow (ks ++ [key])) :: blk b1 (.cells #[.int .i64 (d).th, .int .i64 (d).sn, .int .i64 (d).no, .int .i64 (d).ch, .int .i64 (d).re, .int .i64 (d).fa, .int .u64 (d).cl] 29) :: blk b0 (.cells #[.int .i64 (d).th, .int .i64 (d).sn, .int .i64 (d).no, .int .i64 (d).ch, .int .i64 (d).re, .int .i64 (d).fa, .int .u64 (d).cl] 26) :: [])) := by
                have h := (show St (Know.of w) w16 (_ :: _ :: _ :: _ :: _ :: _ :: _ :: _ :: []) from hs)
                exact h.re [0, 1, 2, 4, 3, 5, 6, 7] rfl
              have q := relStep_st hwb (by omega) hs
              have Q := Lib.hid q
              clear q hs hwb
              go_wp2_with fail
              refine (Q.out).mono ?_
              clear Q
              rintro e w17 ⟨rfl, hs⟩
              have hs : St (Know.of w) w17 (blk b33 (.cells #[.int .u64 nd.id, .int .u64 (ltEnd (ltBegin wd)), .int .i64 p.lev, .slice av p.sl.length cv, .string p.hi, .bool p.la, .int .u64 p.ri, .int .u64 ri.id, .int .u64 ri.word, .int .i64 ri.pg.lev, .slice aw ri.pg.sl.length cw, .string ri.pg.hi, .bool ri.pg.la, .int .u64 ri.pg.ri] 45) :: memC bm bc (putC LJ (d.node nd.id 0) ⟨ltUnlock (ltEnd (ltBegin wd)), ⟨#[]⟩, 0⟩) (acc3 + 1) :: rowC (.slice ao2 ((ks ++ [key])).length co2) 9 1 ((ks ++ [key])).length (stRow (ks ++ [key])) :: blk b1 (.cells #[.int .i64 (d).th, .int .i64 (d).sn, .int .i64 (d).no, .int .i64 (d).ch, .int .i64 (d).re, .int .i64 (d).fa, .int .u64 (d).cl] 29) :: blk b0 (.cells #[.int .i64 (d).th, .int .i64 (d).sn, .int .i64 (d).no, .int .i64 (d).ch, .int .i64 (d).re, .int .i64 (d).fa, .int .u64 (d).cl] 26) :: []) := hs.tail.tail.tail.b1
              go_wp2
              go_roundw
              case rel => exact ⟨1, acc3 + 1, _, by go_num, by omega, by omega, Lib.hid (by rw [HLJ.out]; rfl), hs⟩
              case measure => simp [intOf]
            · cases hsp : decide (d.fa < (fu.sl.length : Int)) with
              | false =>
                as_aux_lemma =>
                have hr0 := Hri.out
                rw [hsp] at hr0
                simp only [Bool.false_eq_true, if_false] at hr0
                have z : (ri.id != 0) = false := by rw [hr0]; rfl
                clear hr0 hwl hidd hno2 hfa1
                have hs := hs.made (.cells #[.int .u64 ri.id, .int .u64 ri.word, .int .i64 ri.pg.lev, .slice aw ri.pg.sl.length cw, .string ri.pg.hi, .bool ri.pg.la, .int .u64 ri.pg.ri] 45)
                go_wp2
                go_roundw
                case rel => exact ⟨2, acc3, LJ, by go_num, by omega, by omega, Lib.hid (by rw [HLJ.out]; show _ = relMem d L L' nd _ _; rw [hsp]; rfl), hs.tail⟩
                case measure => simp [intOf]
              | true =>
                as_aux_lemma =>
                have hr0 := Hri.out
                rw [hsp] at hr0
                simp only [if_true] at hr0
                have hnw : newId (latL d L nd) = newId L := latL_new hd.out HN.out.id.1 HN.out.id.2
                have hnn : newId L = (getC L 4).n + 1 := rfl
                have h40 := (HR.out.cels 4).1
                have hnw2 : newId L ≤ d.no := by rw [← hnw]; exact HO.out.new hsp
                have hri1 : ri.id = newId L := by rw [hr0]; exact hnw
                have hri2 : ri.word = ltLock 0 := by rw [hr0]
                have z : (ri.id != 0) = true := by rw [hri1]; simp; omega
                have hwb : 0 ≤ ri.word ∧ ri.word < 18446744073709551616 := by rw [hri2]; decide
                have QN := Lib.hid (fun W => refNode_any d hd.out ri.id 0 (by rw [hri1]; omega) (by rw [hri1]; omega) (by omega) (by omega) W)
                have Hri1 := Lib.hid hri1
                have Hri2 := Lib.hid hri2
                clear hr0 hwl hidd hno2 hfa1 hnw hnn h40 hnw2 hri1 hri2
                have hs := hs.made (.cells #[.int .u64 ri.id, .int .u64 ri.word, .int .i64 ri.pg.lev, .slice aw ri.pg.sl.length cw, .string ri.pg.hi, .bool ri.pg.la, .int .u64 ri.pg.ri] 45)
                obtain ⟨b20, hb20⟩ : ∃ b, b = wr.heap.size := ⟨_, rfl⟩
                go_upto_region 32 with (fail)
                rw [← hb20] at hs ⊢
                clear hb20
                have kh := hs.k0
                have kc := hs.b5.k0
                refine region_tail 6 (by kernel_rfl) (by as_aux_lemma => kernel_rfl) ?_
                simp only [List.take_succ_cons, List.take_zero, List.drop_succ_cons, List.drop_zero]
                repeat (go_big_quiet_step ((go_at_call 21; exact pure_of (QN.out _))))
                refine wpQuiet_nil ?_
                intro w15 hb15
                have hs := hs.same hb15
                clear kh kc k33 z hb15 QN
                have hs := hs.tail
                go_wp2_with fail
                refine (newRelease_st hs).mono ?_
                clear hs
                rintro e w16 ⟨br, bi, bw, rfl, hs⟩
                have hs : St (Know.of w) w16 (relL br bi bw (d.node ri.id 0) ri.word 0 ++ memC bm bc LJ acc3 :: (blk b33 (.cells #[.int .u64 nd.id, .int .u64 (ltEnd (ltBegin wd)), .int .i64 p.lev, .slice av p.sl.length cv, .string p.hi, .bool p.la, .int .u64 p.ri, .int .u64 ri.id, .int .u64 ri.word, .int .i64 ri.pg.lev, .slice aw ri.pg.sl.length cw, .string ri.pg.hi, .bool ri.pg.la, .int .u64 ri.pg.ri] 45) :: rowC (.slice ao2 ((ks ++ [key])).length co2) 9 1 ((ks ++ [key])).length (stRow (ks ++ [key])) :: blk b1 (.cells #[.int .i64 (d).th, .int .i64 (d).sn, .int .i64 (d).no, .int .i64 (d).ch, .int .i64 (d).re, .int .i64 (d).fa, .int .u64 (d).cl] 29) :: blk b0 (.cells #[.int .i64 (d).th, .int .i64 (d).sn, .int .i64 (d).no, .int .i64 (d).ch, .int .i64 (d).re, .int .i64 (d).fa, .int .u64 (d).cl] 26) :: [])) := by
                  have h := (show St (Know.of w) w16 (_ :: _ :: _ :: _ :: _ :: _ :: _ :: _ :: []) from hs)
                  exact h.re [0, 1, 2, 4, 3, 5, 6, 7] rfl
                have q := relStep_st hwb (by omega) hs
                have Q := Lib.hid q
                clear q hs hwb
                go_wp2_with fail
                refine (Q.out).mono ?_
                clear Q
                rintro e w17 ⟨rfl, hs⟩
                have hs : St (Know.of w) w17 (blk b33 (.cells #[.int .u64 nd.id, .int .u64 (ltEnd (ltBegin wd)), .int .i64 p.lev, .slice av p.sl.length cv, .string p.hi, .bool p.la, .int .u64 p.ri, .int .u64 ri.id, .int .u64 ri.word, .int .i64 ri.pg.lev, .slice aw ri.pg.sl.length cw, .string ri.pg.hi, .bool ri.pg.la, .int .u64 ri.pg.ri] 45) :: memC bm bc (putC LJ (d.node ri.id 0) ⟨ltUnlock ri.word, ⟨#[]⟩, 0⟩) (acc3 + 1) :: rowC (.slice ao2 ((ks ++ [key])).length co2) 9 1 ((ks ++ [key])).length (stRow (ks ++ [key])) :: blk b1 (.cells #[.int .i64 (d).th, .int .i64 (d).sn, .int .i64 (d).no, .int .i64 (d).ch, .int .i64 (d).re, .int .i64 (d).fa, .int .u64 (d).cl] 29) :: blk b0 (.cells #[.int .i64 (d).th, .int .i64 (d).sn, .int .i64 (d).no, .int .i64 (d).ch, .int .i64 (d).re, .int .i64 (d).fa, .int .u64 (d).cl] 26) :: []) := hs.tail.tail.tail.b1
                go_wp2
                go_roundw
                case rel => exact ⟨2, acc3 + 1, _, by go_num, by omega, by omega, Lib.hid (by rw [HLJ.out]; show _ = relMem d L L' nd _ _; rw [Hri1.out, Hri2.out]; rfl), hs⟩
                case measure => simp [intOf]
            · have hs := hs.tail
              have hfree := HN.out.free
              have hpp := HO.out.pp
              have hnw : newId (latL d L nd) = newId L := latL_new hd.out HN.out.id.1 HN.out.id.2
              have hnew : decide (d.fa < (fu.sl.length : Int)) = true → newId L ≤ d.no := fun h => by rw [← hnw]; exact HO.out.new h
              have hq33 : ((splR fu).sl.length : Int) ≤ d.fa := (Hfuok.out.right hd.out).le
              obtain ⟨m1, m2, m3⟩ := ins_mem hd.out HR.out.clen hidd.1 hidd.2 hfree rfl Hp33.out hq33 (HR.out.tr.used 0 l rfl nd Hmem.out) hnew HO.out.cels
              have hlj : LJ = relMem d L L' nd (ltEnd (ltBegin wd)) (decide (d.fa < (fu.sl.length : Int))) := HLJ.out
              rw [hnw] at hpp
              rw [Hwd.out] at hlj
              have Hex := Lib.hid (show ∃ l', RowI d LJ l' (ks ++ [key]) from by
                rw [hlj]
                rw [Hfu.out] at hpp hnew m1 m2 m3 ⊢
                exact HR.out.ins hd.out Hc.out Hno2.out Hkz.out rfl hnew hpp m1 (m3 HR.out.cels) m2)
              clear hfree hpp hnw hnew hq33 m1 m2 m3 hlj hwl hidd hno2 hfa1 k33 HLJ
              obtain ⟨l', HX⟩ := Hex.out
              have HX := Lib.hid HX
              go_wp2
              go_roundw
              case rel => exact ⟨i + 1, acc3, ks ++ [key], LJ, l', ao2, co2, by rw [List.length_append]; rfl, by go_num, by omega, by omega, by rw [List.length_append, List.length_singleton]; omega, by omega, HX, hs.b1⟩
              case measure => simp [intOf]; omega
      · have hks40 : ks.length ≤ 40 := by omega
        have hac4 : acc ≤ 240000 := by omega
        by_cases h1 : i < len
        · have h2 : ¬ i < 40 := fun h => hin ⟨h1, h⟩
          go_wp2
          go_meet
          exact ⟨acc, ks, L, l, ao, co, rfl, hks40, hac4, HR, hs⟩
        · go_wp2
          go_meet
          exact ⟨acc, ks, L, l, ao, co, rfl, hks40, hac4, HR, hs⟩
  case rest =>
  clear hs HS
  obtain ⟨acc, ks, L, l, ao, co, rfl, hks40, hacc, HR, hs⟩ := hcut
  apply_assumption
  have hw2 : IntKind.u64.wrap (ks.length : Int) = (ks.length : Int) := by rw [IntKind.wrap_u64]; omega
  go_wp2_with fail
  refine (poke_st (i := 5) (c := ⟨ks.length, ⟨#[]⟩, 0⟩) hs.b1).mono ?_
  clear hs hw2
  rintro e w4 ⟨rfl, hs⟩
  have HO := Lib.hid (HR.out.snd hd.out (by rw [hch.out]; omega) (by omega))
  have HT := Lib.hid (HR.out.five hd.out ks.length)
  have HC5 := Lib.hid (show CelsOk (five L ks.length) from HR.out.cels.put ⟨by show (0 : Int) ≤ ks.length; omega, by show (ks.length : Int) < _; omega⟩)
  have HL5 := Lib.hid (show ((five L ks.length).length : Int) = d.cells from by unfold five; rw [putC_length]; exact HR.out.clen)
  have hs : St (Know.of w) w4 (rowC (.slice ao (ks).length co) 9 1 (ks).length (stRow ks) :: memC bm bc (five L ks.length) acc :: blk b1 (.cells #[.int .i64 (d).th, .int .i64 (d).sn, .int .i64 (d).no, .int .i64 (d).ch, .int .i64 (d).re, .int .i64 (d).fa, .int .u64 (d).cl] 29) :: blk b0 (.cells #[.int .i64 (d).th, .int .i64 (d).sn, .int .i64 (d).no, .int .i64 (d).ch, .int .i64 (d).re, .int .i64 (d).fa, .int .u64 (d).cl] 26) :: []) := hs.b1
  generalize five L ks.length = L5 at *
  have hacc2 : acc ≤ 240000 := by omega
  clear hacc
  go_wp2
  go_loopw [22] (fun v wr => ∃ (j acc : Nat), v = .int .i64 j ∧ j ≤ ks.length ∧ acc ≤ 240000 + j * 5001 ∧ St (Know.of w) wr (rowC (.slice ao (ks).length co) 9 1 (ks).length (stRow ks) :: memC bm bc L5 acc :: blk b1 (.cells #[.int .i64 (d).th, .int .i64 (d).sn, .int .i64 (d).no, .int .i64 (d).ch, .int .i64 (d).re, .int .i64 (d).fa, .int .u64 (d).cl] 29) :: blk b0 (.cells #[.int .i64 (d).th, .int .i64 (d).sn, .int .i64 (d).no, .int .i64 (d).ch, .int .i64 (d).re, .int .i64 (d).fa, .int .u64 (d).cl] 26) :: [])) (fun v _ => ks.length - (intOf v).toNat)
  case atStart => exact ⟨0, acc, rfl, by omega, by omega, hs⟩
  case round =>
    clear hs hacc2
    obtain ⟨j, acc, rfl, hj, hacc, hs⟩ := hrel
    by_cases hjn : j < ks.length
    · obtain ⟨key, hkey⟩ : ∃ key, ks[j]? = some key := ⟨_, List.getElem?_eq_getElem hjn⟩
      obtain ⟨gk, rfl, ck⟩ := hs.row_at (show (stRow ks)[j]? = some (.string key) by simp [stRow, hkey])
      have Hkey := Lib.hid hkey
      have kl := hs.k2
      clear hkey
      go_upto_region 39 with (fail)
      refine region_tail 5 (by kernel_rfl) (by as_aux_lemma => kernel_rfl) ?_
      simp only [List.take_succ_cons, List.take_zero, List.drop_succ_cons, List.drop_zero]
      repeat (go_big_quiet_step (fail))
      refine wpQuiet_nil ?_
      intro w5 hb5
      have hs := hs.same hb5
      clear ck kl hb5
      have q := newFind_st (d := d) (key := key) (level := ((0 : Nat) : Int)) hs.b1
      have Q := Lib.hid q
      clear hs q
      go_wp2_with fail
      refine (Q.out).mono ?_
      clear Q
      rintro e w6 ⟨b, rfl, hs⟩
      have ho : FdOn (Know.of w) b bm bc d L5 key 0 (rowC (.slice (some ⟨gk, 0, none⟩) (ks).length co) 9 1 (ks).length (stRow ks) :: blk b1 (.cells #[.int .i64 (d).th, .int .i64 (d).sn, .int .i64 (d).no, .int .i64 (d).ch, .int .i64 (d).re, .int .i64 (d).fa, .int .u64 (d).cl] 29) :: blk b0 (.cells #[.int .i64 (d).th, .int .i64 (d).sn, .int .i64 (d).no, .int .i64 (d).ch, .int .i64 (d).re, .int .i64 (d).fa, .int .u64 (d).cl] 26) :: []) fd0 acc w6 := FdOn.start (fun B => hs B)
      clear hs
      go_upto_region 40 with (fail)
      go_cut [24] from 999 to 0 (fun v wx => v = .int .i64 0 ∧ FdOn (Know.of w) b bm bc d L5 key 0 (rowC (.slice (some ⟨gk, 0, none⟩) (ks).length co) 9 1 (ks).length (stRow ks) :: blk b1 (.cells #[.int .i64 (d).th, .int .i64 (d).sn, .int .i64 (d).no, .int .i64 (d).ch, .int .i64 (d).re, .int .i64 (d).fa, .int .u64 (d).cl] 29) :: blk b0 (.cells #[.int .i64 (d).th, .int .i64 (d).sn, .int .i64 (d).no, .int .i64 (d).ch, .int .i64 (d).re, .int .i64 (d).fa, .int .u64 (d).cl] 26) :: []) fd0 acc wx)
      case first =>
        as_aux_lemma =>
        go_wp2
        go_meet
        exact ⟨rfl, ho⟩
      case rest =>
      clear ho
      obtain ⟨rfl, ho⟩ := hcut
      apply_assumption
      go_cut [24] from 999 to 0 (fun _ wx => ∃ (acc' : Nat) (id : Int) (pg : Pg) (rd : RdS) (B : VisB) (va va2 : Value), acc' ≤ acc + 5000 ∧ Hid (FdRes [l] key 0 ⟨2, id, pg, rd⟩) ∧ St (Know.of w) wx (fdL b .nilFunc B va va2 d key (0 : Nat) ⟨2, id, pg, rd⟩ ++ memC bm bc L5 acc' :: rowC (.slice (some ⟨gk, 0, none⟩) (ks).length co) 9 1 (ks).length (stRow ks) :: blk b1 (.cells #[.int .i64 (d).th, .int .i64 (d).sn, .int .i64 (d).no, .int .i64 (d).ch, .int .i64 (d).re, .int .i64 (d).fa, .int .u64 (d).cl] 29) :: blk b0 (.cells #[.int .i64 (d).th, .int .i64 (d).sn, .int .i64 (d).no, .int .i64 (d).ch, .int .i64 (d).re, .int .i64 (d).fa, .int .u64 (d).cl] 26) :: []))
      case first =>
        as_aux_lemma =>
        go_wp2
        go_loopw [24] (fun vn wr => ∃ (n m : Nat) (s : FdS), n + m ≤ 1102 ∧ vn = .int .i64 n ∧ s.pc ≠ 2 ∧ Hid (FdInv d L5 [l] key 0 s m) ∧ FdOn (Know.of w) b bm bc d L5 key 0 (rowC (.slice (some ⟨gk, 0, none⟩) (ks).length co) 9 1 (ks).length (stRow ks) :: blk b1 (.cells #[.int .i64 (d).th, .int .i64 (d).sn, .int .i64 (d).no, .int .i64 (d).ch, .int .i64 (d).re, .int .i64 (d).fa, .int .u64 (d).cl] 29) :: blk b0 (.cells #[.int .i64 (d).th, .int .i64 (d).sn, .int .i64 (d).no, .int .i64 (d).ch, .int .i64 (d).re, .int .i64 (d).fa, .int .u64 (d).cl] 26) :: []) s (acc + n) wr) (fun v _ => 1102 - (intOf v).toNat)
        case atStart =>
          have hns : nodeSteps d ≤ 11 := by unfold nodeSteps; have := hfa.out; omega
          have hcn : ([l].map List.length).sum ≤ 41 := by have h1 := HR.out.tr.count; have h2 := HR.out.n4; omega
          have hc := Nat.mul_le_mul hcn hns
          exact ⟨0, _, fd0, by omega, rfl, by decide, Lib.hid FdInv.start, ho⟩
        case round =>
          clear ho
          obtain ⟨n, m, s, hnm, rfl, hpc, HI, ho⟩ := hrel
          have hm := (HI.out.step hd.out HC5.out HT.out hpc).1
          have q := findStep_inv hd.out HC5.out HT.out (by omega) HI.out hpc ho
          generalize fdStep d L5 key ((0 : Nat) : Int) s = s' at q
          have hn5 : (n : Int) < 5000 := by omega
          clear ho
          by_cases hp : 2 ≤ s'.pc
          · rw [decide_eq_true hp] at q
            have Q := Lib.hid q
            clear q
            go_wp2_with fail
            refine (Q.out).mono ?_
            clear Q
            rintro e w7 ⟨rfl, _, hI, hs⟩
            obtain ⟨h2, hr⟩ := hI.done hp
            obtain ⟨⟨B, va, va2⟩, hs⟩ := hs
            obtain ⟨pc, id, pg, rd⟩ := s'
            simp only at h2
            subst h2
            have Hr := Lib.hid hr
            have hs : St (Know.of w) w7 (fdL b .nilFunc B va va2 d key (0 : Nat) ⟨2, id, pg, rd⟩ ++ memC bm bc L5 (acc + n + 1) :: rowC (.slice (some ⟨gk, 0, none⟩) (ks).length co) 9 1 (ks).length (stRow ks) :: blk b1 (.cells #[.int .i64 (d).th, .int .i64 (d).sn, .int .i64 (d).no, .int .i64 (d).ch, .int .i64 (d).re, .int .i64 (d).fa, .int .u64 (d).cl] 29) :: blk b0 (.cells #[.int .i64 (d).th, .int .i64 (d).sn, .int .i64 (d).no, .int .i64 (d).ch, .int .i64 (d).re, .int .i64 (d).fa, .int .u64 (d).cl] 26) :: []) := hs
            clear hI hr hp
            go_wp2
            go_meet
            exact ⟨acc + n + 1, id, pg, rd, B, va, va2, by omega, Hr, hs⟩
          · rw [decide_eq_false hp] at q
            have Q := Lib.hid q
            clear q
            go_wp2_with fail
            refine (Q.out).mono ?_
            clear Q
            rintro e w7 ⟨rfl, _, hI, ho⟩
            have HI := Lib.hid hI
            clear hI
            go_wp2
            go_roundw
            case rel => exact ⟨n + 1, m - 1, s', by omega, by go_num, by omega, HI, by rw [show acc + (n + 1) = acc + n + 1 by omega]; exact ho⟩
            case measure => simp [intOf]; omega
      case rest =>
      clear ho
      obtain ⟨acc', id, pg, rd, B, va, va2, hacc', HF, hs⟩ := hcut
      apply_assumption
      obtain ⟨nd, hcov, hpg⟩ : ∃ nd, Cover [l] key 0 nd ∧ pg = nd.pg := by
        obtain ⟨l0, i0, nd, e1, e2, _, e4, e5, e6⟩ := HF.out.1 (by simp)
        exact ⟨nd, ⟨l0, i0, e1, e2, e5, e6⟩, e4⟩
      obtain ⟨hslot, hany⟩ := HR.out.slot Hkey.out hcov
      rw [← hpg] at hslot hany
      have hpl : pg.sl.length ≤ 1000000 := by
        rw [hpg]
        have := (hcov.nd HR.out.tr).page.le
        have := hd.out.fa2
        omega
      have Hslot := Lib.hid hslot
      have q := findNode_st (s := (⟨2, id, pg, rd⟩ : FdS)) rfl hpl hs
      have Q := Lib.hid q
      have Hany := Lib.hid hany
      clear hs q hslot hany hpg hcov HF
      go_wp2_with fail
      refine (Q.out).mono ?_
      clear Q
      rintro e w8 ⟨va', rfl, hs⟩
      obtain ⟨a1, cap1, hv, _, _⟩ := hs.row_read
      subst hv
      have hs := hs.made (.cells #[.int .i64 (pg).lev, (.slice a1 pg.sl.length cap1), .string (pg).hi, .bool (pg).la, .int .u64 (pg).ri] 43)
      obtain ⟨bp, hbp⟩ : ∃ bp, bp = w8.heap.size := ⟨_, rfl⟩
      go_upto_region 44 with (fail)
      rw [← hbp] at hs ⊢
      clear hbp
      refine wp_ck hs ?_
      clear hs
      intro w9 hs
      have hs : St (Know.of w) w9 (blk bp (.cells #[.int .i64 (pg).lev, (.slice a1 pg.sl.length cap1), .string (pg).hi, .bool (pg).la, .int .u64 (pg).ri] 43) :: slC (.slice a1 pg.sl.length cap1) pg :: memC bm bc L5 acc' :: rowC (.slice (some ⟨gk, 0, none⟩) (ks).length co) 9 1 (ks).length (stRow ks) :: blk b1 (.cells #[.int .i64 (d).th, .int .i64 (d).sn, .int .i64 (d).no, .int .i64 (d).ch, .int .i64 (d).re, .int .i64 (d).fa, .int .u64 (d).cl] 29) :: blk b0 (.cells #[.int .i64 (d).th, .int .i64 (d).sn, .int .i64 (d).no, .int .i64 (d).ch, .int .i64 (d).re, .int .i64 (d).fa, .int .u64 (d).cl] 26) :: []) := (hs.re [2, 3, 0, 1, 4, 5, 6, 7] rfl).tail.tail
      have kp := hs.k0
      obtain ⟨gs, hgs, cz⟩ := (show St (Know.of w) w9 (rowC (.slice a1 pg.sl.length cap1) 69 2 pg.sl.length (slRow pg.sl) :: _) from hs.b1).row_at (slRow_at pg.sl _ _ Hslot.out).2
      subst hgs
      clear cz
      have ck := (show St (Know.of w) w9 (rowC _ _ _ _ (stRow ks) :: _) from hs.b3).row_cell (show (stRow ks)[j]? = some (.string key) by simp [stRow, Hkey.out])
      have hsl := (show St (Know.of w) w9 (rowC _ _ _ _ (slRow pg.sl) :: _) from hs.b1).row_slots (by omega)
      have qf := fun W (hb : Below w9.heap.size w9 W) => refFind_any (cap := cap1) (key := key) W (hsl.same hb)
      rw [Hany.out] at qf
      have QF := Lib.hid (fun wz (hy : ∃ x : Ext, wz = over w9 x) => qf wz (Pure.below hy))
      clear qf hsl
      refine region_pure (by kernel_rfl) (by kernel_rfl) ?_
      repeat (go_big_quiet_step ((go_at_call 51; exact pure_of (QF.out _ ⟨_, rfl⟩))))
      refine wpQuiet_nil ?_
      intro w10 hb10
      have hs := hs.same hb10
      clear kp ck hb10 QF
      have kp := hs.k0
      have cs := (show St (Know.of w) w10 (rowC _ _ _ _ (slRow pg.sl) :: _) from hs.b1).row_cell (slRow_at pg.sl _ _ Hslot.out).2
      have hlo : loK pg.sl key < pg.sl.length := (List.getElem?_eq_some_iff.1 Hslot.out).1
      have hw2 : IntKind.u64.wrap ((j : Int) + 1) = (j : Int) + 1 := by rw [IntKind.wrap_u64]; omega
      have z : (((j + 1 : Nat) : Int) != (j : Int) + 1) = false := by simp
      go_wp2
      go_roundw
      case rel => exact ⟨j + 1, acc', by go_num, by omega, by omega, hs.tail.tail.b1⟩
      case measure => simp [intOf]; omega
    · obtain rfl : j = ks.length := by omega
      have kc := hs.b3.k0
      have q := kitView_st (d := d) hs.b1
      have Q := Lib.hid q
      clear hs q
      go_wp2_with fail
      refine (Q.out).mono ?_
      clear Q kc
      rintro e w5 ⟨g, rfl, hle, hg, hs⟩
      obtain ⟨K2, hK2⟩ : ∃ K2, K2 = (Know.of w).add g (.cells (flat L5).toArray 63) := ⟨_, rfl⟩
      rw [← hK2] at hle hg hs
      have Hle := Lib.hid hle
      have hs := hs.made (.cells #[.int .i64 (d).th, .int .i64 (d).sn, .int .i64 (d).no, .int .i64 (d).ch, .int .i64 (d).re, .int .i64 (d).fa, .int .u64 (d).cl, .slice (some ⟨g, 0, none⟩) L5.length L5.length] 52)
      obtain ⟨bv, hbv⟩ : ∃ bv, bv = w5.heap.size := ⟨_, rfl⟩
      have hcb := hd.out.cells_bd
      have hl6 : L5.length ≤ 1000000 := by have := HL5.out; omega
      have hkl : (l.flatMap fun nd => nd.pg.sl).length = ks.length := by have h := HR.out.sl.length_eq; rw [keySl_length] at h; exact h
      have QS := Lib.hid (fun W cs (h : St K2 W cs) => viewSound_st hd.out HC5.out HL5.out HO.out hg h)
      have qk := fun W cs (h : St K2 W cs) => viewKeys_st hd.out HT.out (l := l) rfl hg hl6 h
      rw [hkl] at qk
      have QK := Lib.hid qk
      have QH := Lib.hid (fun W cs (h : St K2 W cs) => show Calls Tryz.prog 26 #[.agg #[.int .i64 (d).th, .int .i64 (d).sn, .int .i64 (d).no, .int .i64 (d).ch, .int .i64 (d).re, .int .i64 (d).fa, .int .u64 (d).cl, .slice (some ⟨g, 0, none⟩) L5.length L5.length]] W fun e w' => e = .returned (.int .i64 1) ∧ St K2 w' cs from treeHeight_st hd.out HT.out HL5.out hg h)
      generalize L5.length = n5 at *
      clear qk hkl hcb hK2 hle hg
      go_upto_region 48 with (fail)
      rw [← hbv] at hs ⊢
      clear hbv
      have kv := hs.k0
      go_wp2_with fail
      refine (QS.out _ _ hs).mono ?_
      clear hs kv QS
      rintro e w6 ⟨rfl, hs⟩
      have kv := hs.k0
      go_wp2_with fail
      refine (QK.out _ _ hs).mono ?_
      clear hs kv QK
      rintro e w7 ⟨vk, rfl, hs⟩
      obtain ⟨ak, ck, rfl, _, _⟩ := hs.row_read
      have kv := hs.k1
      go_wp2_with fail
      refine (QH.out _ _ hs).mono ?_
      clear kv QH hs
      rintro e w8 ⟨rfl, hs⟩
      go_wp2
      go_ret
      exact ⟨rfl, hs.below Hle.out⟩
end Go.Proofs.YtlpdhhhgckpcfaaGreat
