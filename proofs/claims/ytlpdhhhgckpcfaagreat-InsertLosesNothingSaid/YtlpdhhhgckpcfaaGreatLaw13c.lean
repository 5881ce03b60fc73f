
/- The walk of InsertLosesNothing. -/
import Derived.Test.YtlpdhhhgckpcfaaGreatIlnOn
import Derived.Test.YtlpdhhhgckpcfaaGreatAw13
import Derived.Test.YtlpdhhhgckpcfaaGreatAppF
namespace Go.Proofs.YtlpdhhhgckpcfaaGreat
open Go.RowKit
set_option maxRecDepth 100000
set_option maxHeartbeats 16000000 in
theorem insertLosesNothing_walk (a : Option Addr) (len cap : Nat) (f : Nat → ByteArray) (fanout : Int) (key : ByteArray) (at' : Int) (qa : Option Addr) (lp qcap : Nat) (P : Nat → Int) (hkey : key.size ≤ maxLen) (w : World) (hz : StrsIn w a len f) (hq : RowIn .u8 w qa lp P) :
    Calls Tryz.prog 6 #[.slice a len cap, .int .i64 fanout, .string key, .int .i64 at', .slice qa lp qcap] w fun e w' => e = .returned (.bool true) ∧ Below w.heap.size w w' := by
  obtain ⟨d, hd, hfa, hno, hch, Q1, Q2⟩ : ∃ d : Cfg, Hid d.Ok ∧ Hid (d.fa = 4 + fanout % 3) ∧ Hid (d.no = 100) ∧ Hid (d.ch = 100) ∧ Hid (∀ w, Calls Tryz.prog 12 #[.int .i64 1, .int .i64 fanout] w fun e w' => e = .returned (.agg #[.int .i64 d.th, .int .i64 d.sn, .int .i64 d.no, .int .i64 d.ch, .int .i64 d.re, .int .i64 d.fa, .int .u64 d.cl]) ∧ Below w.heap.size w w') ∧ Hid (∀ w K cs, St K w cs → Calls Tryz.prog 13 #[.agg #[.int .i64 d.th, .int .i64 d.sn, .int .i64 d.no, .int .i64 d.ch, .int .i64 d.re, .int .i64 d.fa, .int .u64 d.cl]] w fun e w'' => ∃ bm bc, e = .returned (.tuple #[.agg #[.int .i64 d.th, .int .i64 d.sn, .int .i64 d.no, .int .i64 d.ch, .int .i64 d.re, .int .i64 d.fa, .int .u64 d.cl], (.pointer (some ⟨bm, 0, none⟩))]) ∧ St K w'' (memC bm bc (startL d) 0 :: cs)) :=
    ⟨kitC 1 (4 + fanout % 3) 1000, Lib.hid (kit8_ok fanout), Lib.hid rfl, Lib.hid rfl, Lib.hid rfl, Lib.hid (fun w => kitConfig_any 1 fanout w), Lib.hid (fun w K cs hs => kitMemory_st (kit8_ok fanout) hs)⟩
  have Hz := Lib.hid hz
  have Hq := Lib.hid hq
  have hlp := hq.1
  simp only [maxLen] at hlp hkey
  obtain ⟨fan, hfan⟩ : ∃ fan : Nat, d.fa = fan ∧ 4 ≤ fan ∧ fan ≤ 6 := ⟨d.fa.toNat, by have := hfa.out; omega, by have := hfa.out; omega, by have := hfa.out; omega⟩
  have Hfan := Lib.hid hfan
  clear hz hq hfan
  have QA := Lib.hid (fun (W : World) (cs : List Comp) (h : St (Know.of w) W cs) => awake13_st h)
  have hs := St.start w
  go_enter Tryz.func6, Tryz.ntmps6
  go_wp2_with fail
  refine (calls_same hs (Q1.out _)).mono ?_
  clear hs
  rintro e w1 ⟨rfl, hs⟩
  have hs := hs.made (.cells #[.int .i64 (d).th, .int .i64 (d).sn, .int .i64 (d).no, .int .i64 (d).ch, .int .i64 (d).re, .int .i64 (d).fa, .int .u64 (d).cl] 26)
  obtain ⟨b0, hb0⟩ : ∃ b, b = w1.heap.size := ⟨_, rfl⟩
  have kc := hs.k0
  go_wp2_with fail
  rw [← hb0] at hs kc ⊢
  clear hb0
  refine (Q2.out _ _ _ hs).mono ?_
  clear hs kc
  rintro e w2 ⟨bm, bc, rfl, hs⟩
  have hs := hs.made (.cells #[.int .i64 (d).th, .int .i64 (d).sn, .int .i64 (d).no, .int .i64 (d).ch, .int .i64 (d).re, .int .i64 (d).fa, .int .u64 (d).cl] 29)
  obtain ⟨b1, hb1⟩ : ∃ b, b = w2.heap.size := ⟨_, rfl⟩
  rw [← hb1] at hs
  have kc := hs.b2.k0
  have hfe := Hfan.out.1
  have qk := keys_st (a := a) (len := len) (cap := cap) (f := f) (most := fan) Hz.out (by have := Hfan.out; omega) hs
  rw [← hfe] at qk
  have QK := Lib.hid qk
  clear qk hfe
  go_wp2_with fail
  rw [← hb1]
  clear hb1
  refine (QK.out).mono ?_
  clear hs QK kc
  rintro e w3 ⟨v, ks, rfl, HK, hs⟩
  obtain ⟨ao, co, rfl, _, _⟩ := hs.row_read
  have hs : St (Know.of w) w3 (rowC (.slice ao (ks).length co) 9 1 (ks).length (stRow ks) :: memC bm bc (startL d) 0 :: blk b1 (.cells #[.int .i64 (d).th, .int .i64 (d).sn, .int .i64 (d).no, .int .i64 (d).ch, .int .i64 (d).re, .int .i64 (d).fa, .int .u64 (d).cl] 29) :: blk b0 (.cells #[.int .i64 (d).th, .int .i64 (d).sn, .int .i64 (d).no, .int .i64 (d).ch, .int .i64 (d).re, .int .i64 (d).fa, .int .u64 (d).cl] 26) :: []) := hs.re [0, 2, 1] rfl
  go_upto_region 4 with (fail)
  go_cut [58] from 43 to 59 (fun v wx => ∃ b : Bool, v = .bool b ∧ Hid (b = false → 2 ≤ ks.length ∧ lp ≤ 200) ∧ St (Know.of w) wx (rowC (.slice ao (ks).length co) 9 1 (ks).length (stRow ks) :: memC bm bc (startL d) 0 :: blk b1 (.cells #[.int .i64 (d).th, .int .i64 (d).sn, .int .i64 (d).no, .int .i64 (d).ch, .int .i64 (d).re, .int .i64 (d).fa, .int .u64 (d).cl] 29) :: blk b0 (.cells #[.int .i64 (d).th, .int .i64 (d).sn, .int .i64 (d).no, .int .i64 (d).ch, .int .i64 (d).re, .int .i64 (d).fa, .int .u64 (d).cl] 26) :: []))
  case first =>
    go_wp2_with fail
    refine (QA.out _ _ hs).mono ?_
    clear hs
    rintro e w4 ⟨rfl, hs⟩
    by_cases h2 : (ks.length : Int) < 2
    · go_wp2
      go_meet
      exact ⟨true, rfl, Lib.hid (fun h => by cases h), hs⟩
    · go_wp2
      go_meet
      exact ⟨_, rfl, Lib.hid (fun h => by simp at h; omega), hs⟩
  case rest =>
  clear hs
  obtain ⟨bad, rfl, Hbad, hs⟩ := hcut
  apply_assumption
  cases bad with
  | true =>
    go_wp2_with fail
    refine (QA.out _ _ hs).mono ?_
    clear hs
    rintro e w4 ⟨rfl, hs⟩
    go_wp2
    go_ret
    exact ⟨rfl, hs.below (Know.Le.refl _)⟩
  | false =>
  obtain ⟨h2, hlp2⟩ := Hbad.out rfl
  have H2 := Lib.hid h2
  clear Hbad hlp h2
  go_upto_region 6 with (fail)
  go_cut [2] from 64 to 69 (fun v wx => ∃ key' : ByteArray, v = .string key' ∧ Hid (key'.size ≤ 32) ∧ St (Know.of w) wx (rowC (.slice ao (ks).length co) 9 1 (ks).length (stRow ks) :: memC bm bc (startL d) 0 :: blk b1 (.cells #[.int .i64 (d).th, .int .i64 (d).sn, .int .i64 (d).no, .int .i64 (d).ch, .int .i64 (d).re, .int .i64 (d).fa, .int .u64 (d).cl] 29) :: blk b0 (.cells #[.int .i64 (d).th, .int .i64 (d).sn, .int .i64 (d).no, .int .i64 (d).ch, .int .i64 (d).re, .int .i64 (d).fa, .int .u64 (d).cl] 26) :: []))
  case first =>
    as_aux_lemma =>
    by_cases h32 : key.size ≤ 32
    · have H32 := Lib.hid h32
      go_wp2
      go_meet
      exact ⟨_, rfl, H32, hs⟩
    · have h32' : ¬ ((key.size : Int) ≤ 32) := by omega
      have Hsz : Hid ((key.extract 0 32).size ≤ 32) := Lib.hid (by rw [ByteArray.size_extract]; omega)
      go_wp2
      go_meet
      exact ⟨_, rfl, Hsz, hs⟩
  case rest =>
  clear hs hkey
  obtain ⟨key', rfl, Hkz, hs⟩ := hcut
  apply_assumption
  obtain ⟨bp, hbp⟩ : ∃ b, b = wc.heap.size := ⟨_, rfl⟩
  have hs := hs.made (.cells #[.int .i64 ((⟨0, [], ⟨#[]⟩, true, 0⟩ : Pg)).lev, (.slice none 0 0), .string ((⟨0, [], ⟨#[]⟩, true, 0⟩ : Pg)).hi, .bool ((⟨0, [], ⟨#[]⟩, true, 0⟩ : Pg)).la, .int .u64 ((⟨0, [], ⟨#[]⟩, true, 0⟩ : Pg)).ri] 43)
  have hs := hs.row_nil (T := 69) (size := 2)
  have hs : St (Know.of w) _ (blk wc.heap.size (.cells #[.int .i64 ((⟨0, [], ⟨#[]⟩, true, 0⟩ : Pg)).lev, (.slice none 0 0), .string ((⟨0, [], ⟨#[]⟩, true, 0⟩ : Pg)).hi, .bool ((⟨0, [], ⟨#[]⟩, true, 0⟩ : Pg)).la, .int .u64 ((⟨0, [], ⟨#[]⟩, true, 0⟩ : Pg)).ri] 43) :: rowC (.slice none 0 0) 69 2 0 [] :: rowC (.slice ao (ks).length co) 9 1 (ks).length (stRow ks) :: memC bm bc (startL d) 0 :: blk b1 (.cells #[.int .i64 (d).th, .int .i64 (d).sn, .int .i64 (d).no, .int .i64 (d).ch, .int .i64 (d).re, .int .i64 (d).fa, .int .u64 (d).cl] 29) :: blk b0 (.cells #[.int .i64 (d).th, .int .i64 (d).sn, .int .i64 (d).no, .int .i64 (d).ch, .int .i64 (d).re, .int .i64 (d).fa, .int .u64 (d).cl] 26) :: []) := hs.b1
  rw [← hbp] at hs
  go_upto_region 8 with (fail)
  rw [← hbp]
  clear hbp
  go_wp2
  go_loopw [16] (fun v16 wr => ∃ (i : Nat) (ap : Option Addr) (cp : Nat), v16 = .int .i64 i ∧ i ≤ ks.length ∧ Hid (∀ x, x ∈ ks.take i → x ≠ key') ∧ St (Know.of w) wr (blk bp (.cells #[.int .i64 ((⟨0, [], ⟨#[]⟩, true, 0⟩ : Pg)).lev, (.slice ap i cp), .string ((⟨0, [], ⟨#[]⟩, true, 0⟩ : Pg)).hi, .bool ((⟨0, [], ⟨#[]⟩, true, 0⟩ : Pg)).la, .int .u64 ((⟨0, [], ⟨#[]⟩, true, 0⟩ : Pg)).ri] 43) :: rowC (.slice ap i cp) 69 2 i (slRow (keySl 0 (ks.take i))) :: rowC (.slice ao (ks).length co) 9 1 (ks).length (stRow ks) :: memC bm bc (startL d) 0 :: blk b1 (.cells #[.int .i64 (d).th, .int .i64 (d).sn, .int .i64 (d).no, .int .i64 (d).ch, .int .i64 (d).re, .int .i64 (d).fa, .int .u64 (d).cl] 29) :: blk b0 (.cells #[.int .i64 (d).th, .int .i64 (d).sn, .int .i64 (d).no, .int .i64 (d).ch, .int .i64 (d).re, .int .i64 (d).fa, .int .u64 (d).cl] 26) :: [])) (fun v _ => ks.length - (intOf v).toNat)
  case atStart => exact ⟨0, none, 0, rfl, by omega, Lib.hid (fun x h => by simp at h), hs⟩
  case round =>
    clear hs
    obtain ⟨i, ap, cp, rfl, hi, Hne, hs⟩ := hrel
    have hk6 : ks.length ≤ 6 := by have h1 := HK.out.len; have h2 := Hfan.out; omega
    by_cases hin : i < ks.length
    · obtain ⟨ki, hki⟩ : ∃ ki, ks[i]? = some ki := ⟨_, List.getElem?_eq_getElem hin⟩
      have hrow : (stRow ks)[i]? = some (.string ki) := by simp [stRow, hki]
      obtain ⟨g5, rfl, c0⟩ := (show St (Know.of w) wr (rowC (.slice ao ks.length co) 9 1 ks.length (stRow ks) :: _) from hs.b2).row_at hrow
      have Hrow := Lib.hid hrow
      have Hki := Lib.hid hki
      clear hrow hki
      go_upto_region 11 with (fail)
      go_cut [81] from 76 to 82 (fun v wx => v = .bool (ki.toList == key'.toList) ∧ St (Know.of w) wx (blk bp (.cells #[.int .i64 ((⟨0, [], ⟨#[]⟩, true, 0⟩ : Pg)).lev, (.slice ap i cp), .string ((⟨0, [], ⟨#[]⟩, true, 0⟩ : Pg)).hi, .bool ((⟨0, [], ⟨#[]⟩, true, 0⟩ : Pg)).la, .int .u64 ((⟨0, [], ⟨#[]⟩, true, 0⟩ : Pg)).ri] 43) :: rowC (.slice ap i cp) 69 2 i (slRow (keySl 0 (ks.take i))) :: rowC (.slice (some ⟨g5, 0, none⟩) (ks).length co) 9 1 (ks).length (stRow ks) :: memC bm bc (startL d) 0 :: blk b1 (.cells #[.int .i64 (d).th, .int .i64 (d).sn, .int .i64 (d).no, .int .i64 (d).ch, .int .i64 (d).re, .int .i64 (d).fa, .int .u64 (d).cl] 29) :: blk b0 (.cells #[.int .i64 (d).th, .int .i64 (d).sn, .int .i64 (d).no, .int .i64 (d).ch, .int .i64 (d).re, .int .i64 (d).fa, .int .u64 (d).cl] 26) :: []))
      case first =>
        as_aux_lemma =>
        go_wp2
        go_meet
        exact ⟨rfl, hs⟩
      case rest =>
      clear hs c0
      obtain ⟨rfl, hs⟩ := hcut
      apply_assumption
      cases heq : (ki.toList == key'.toList) with
      | true =>
        clear heq
        go_wp2
        go_ret
        exact ⟨rfl, hs.below (Know.Le.refl _)⟩
      | false =>
        have hne : ki ≠ key' := fun e => by rw [e, beq_self_eq_true] at heq; cases heq
        have Hne2 : Hid (∀ x, x ∈ ks.take (i + 1) → x ≠ key') := Lib.hid (fun x hx => by
          rw [List.take_add_one, Hki.out] at hx
          rcases List.mem_append.1 hx with hx | hx
          · exact Hne.out x hx
          · obtain rfl : x = ki := by simpa using hx
            exact hne)
        clear heq hne
        have hw1 : wrap64 ((i : Int) + 1) = (i : Int) + 1 := wrap64_idn (by omega) (by omega)
        have hw2 : IntKind.u64.wrap ((i : Int) + 1) = (i : Int) + 1 := by rw [IntKind.wrap_u64]; omega
        have Htk : Hid (slRow (keySl 0 (ks.take (i + 1))) = slRow (keySl 0 (ks.take i)) ++ [.string ki, .int .u64 ((i : Int) + 1)]) := Lib.hid (by
          rw [List.take_add_one, Hki.out]
          show slRow (keySl 0 (ks.take i ++ [ki])) = _
          rw [keySl_push]
          unfold slRow
          rw [List.flatMap_append]
          congr 1
          show [Value.string ki, .int .u64 _] = _
          rw [List.length_take, Nat.min_eq_left (by omega)]
          congr 3
          show ((0 + i + 1 : Nat) : Int) = (i : Int) + 1
          omega)
        have Hs := Lib.hid hs.b1
        clear hs
        go_upto_region 13 with (fail)
        refine region_effects [false, true, false, false, false, false, false, false, false, false, true, true, false, true] [1, 10, 11, 13] (fun | 11 => [1, 10] | 13 => [11] | _ => [])
          (ApR (Know.of w) (rowC (.slice (some ⟨g5, 0, none⟩) (ks).length co) 9 1 (ks).length (stRow ks) :: memC bm bc (startL d) 0 :: blk b1 (.cells #[.int .i64 (d).th, .int .i64 (d).sn, .int .i64 (d).no, .int .i64 (d).ch, .int .i64 (d).re, .int .i64 (d).fa, .int .u64 (d).cl] 29) :: blk b0 (.cells #[.int .i64 (d).th, .int .i64 (d).sn, .int .i64 (d).no, .int .i64 (d).ch, .int .i64 (d).re, .int .i64 (d).fa, .int .u64 (d).cl] 26) :: []) bp (fun v => [.int .i64 0, v, .string ⟨#[]⟩, .bool true, .int .u64 0]) 43 69 (.slice ap i cp) 2 i (slRow (keySl 0 (ks.take i))) [.string ki, .int .u64 ((i : Int) + 1)] 1 10 11 13)
          (fun W => St (Know.of w) W (rowC (.slice (some ⟨g5, 0, none⟩) (ks).length co) 9 1 (ks).length (stRow ks) :: memC bm bc (startL d) 0 :: blk b1 (.cells #[.int .i64 (d).th, .int .i64 (d).sn, .int .i64 (d).no, .int .i64 (d).ch, .int .i64 (d).re, .int .i64 (d).fa, .int .u64 (d).cl] 29) :: blk b0 (.cells #[.int .i64 (d).th, .int .i64 (d).sn, .int .i64 (d).no, .int .i64 (d).ch, .int .i64 (d).re, .int .i64 (d).fa, .int .u64 (d).cl] 26) :: [])) ?aS (by kernel_rfl) ?hB ?H ?haS ?h0 ?hI ?hR ?hE ?hQ
        case hB => as_aux_lemma => kernel_rfl
        case H =>
          intro W2 hs
          have c0 := hs.row_cell Hrow.out
          clear hs
          simp only [withM]
          repeat (go_big_quiet_step (fail))
          refine wpQuiet_nil ?_
          rfl
        case haS => rfl
        case h0 => exact ApR.start Hs.out
        case hI => exact fun ρ W2 h => h.rest
        case hR => exact fun ρ W2 W3 h hb => h.same hb
        case hE =>
          clear hw1 hw2
          obtain ⟨iv, hiv0, hiv1, hiv2, hiv3⟩ := info_parts infoSlot
          have Hi0 := Lib.hid hiv0
          have Hi1 := Lib.hid hiv1
          have Hi2 := Lib.hid hiv2
          have Hi3 := Lib.hid hiv3
          clear hiv0 hiv1 hiv2 hiv3
          refine ⟨?e1, ?e10, ?e11, ?e13, trivial⟩
          case e1 =>
            intro o ho ρ W2 h hcl h1 hd2 af haf
            obtain rfl := Option.some.inj ho
            replace haf : af = fillD _ ρ [] _ := haf
            have h11 : ρ 11 = none := hcl.none (by simp) (show 1 ∈ [1, 10] by simp) h1
            have h13 : ρ 13 = none := hcl.none (by simp) (show 11 ∈ [11] by simp) h11
            obtain ⟨⟨R', hs⟩, hnext⟩ := h.load (by omega) (by omega) (by omega) h13
            simp only [fillD] at haf
            subst haf
            have k := hs.k0
            have Hn := Lib.hid hnext
            clear hnext hs h h1 h11 h13 hcl hd2
            go_wp2
            exact ⟨rfl, _, rfl, Hn.out⟩
          case e10 =>
            intro o ho ρ W2 h hcl h10 hd2 af haf
            obtain rfl := Option.some.inj ho
            replace haf : af = fillD _ ρ [] _ := haf
            have Hn := Lib.hid (h.made (by omega) (by omega) (by omega) h10)
            simp only [fillD] at haf
            subst haf
            clear h h10 hcl hd2
            go_wp2
            exact ⟨rfl, _, rfl, Hn.out⟩
          case e11 =>
            intro o ho ρ W2 h hcl h11 hd2 af haf
            obtain rfl := Option.some.inj ho
            replace haf : af = fillD _ ρ [1, 10] _ := haf
            obtain ⟨v1, h1⟩ := Option.isSome_iff_exists.1 (hd2 1 (by show _ ∈ [1, 10]; simp))
            obtain ⟨v10, h10⟩ := Option.isSome_iff_exists.1 (hd2 10 (by show _ ∈ [1, 10]; simp))
            have h13 : ρ 13 = none := hcl.none (by simp) (show 11 ∈ [11] by simp) h11
            obtain rfl : v1 = .slice ap i cp := h.val h1
            obtain ⟨bl, R', rfl, hs, hnext⟩ := h.app (by omega) (by omega) (by omega) h10 h11 h13
            simp only [fillD, h1, h10, Option.getD_some, dstAt, List.getElem?_cons_succ, List.getElem?_cons_zero, Option.bind_some, Option.bind_none, Act.put, List.setIfInBounds_toArray, List.set_cons_zero, List.set_cons_succ] at haf
            subst haf
            refine append_row_st _ _ 41 69 _ i 1 1 2 24 _ [.string ki, .int .u64 ((i : Int) + 1)] (.agg #[.string ⟨#[]⟩, .int .u64 0]) iv (some ⟨bl, 0, none⟩) hs rfl rfl Tryz.underlying41 Hi0.out Hi1.out Hi2.out Hi3.out rfl (by decide) rfl rfl rfl (fun e => by cases e) (lit_cells hs.k1) (fun u hu => by simp at hu; rcases hu with rfl | rfl <;> rfl) (by omega) (by decide) ?_
            intro v' w' hs'
            exact ⟨rfl, _, rfl, hnext v' w' hs'⟩
          case e13 =>
            intro o ho ρ W2 h hcl h13 hd2 af haf
            obtain rfl := Option.some.inj ho
            replace haf : af = fillD _ ρ [11] _ := haf
            obtain ⟨v11, h11⟩ := Option.isSome_iff_exists.1 (hd2 11 (by show _ ∈ [11]; simp))
            obtain ⟨R', hs, ⟨a1, c1, rfl⟩, hnext⟩ := h.store (by omega) (by omega) (by omega) h11 h13
            simp only [fillD, h11, Option.getD_some, dstAt, List.getElem?_cons_succ, List.getElem?_cons_zero, Option.bind_some, Option.bind_none, Act.put, List.setIfInBounds_toArray, List.set_cons_zero, List.set_cons_succ] at haf
            subst haf
            have k0 := hs.k0
            have f0 := hs.f0
            have Hs3 := Lib.hid (hs.setL 1 (.slice a1 (i + 1) c1))
            have Hn := Lib.hid hnext
            clear hs hnext hcl hd2 h h11 h13
            go_wp2
            exact ⟨rfl, undef, rfl, Hn.out _ Hs3.out⟩
        case hQ =>
          intro ρ W2 h hall
          obtain ⟨a1, c1, h1, ⟨v10, h10⟩, h11, ⟨v13, h13⟩, hs⟩ := h.last hall
          simp only [fillD, h1, h10, h11, h13, Option.getD_some, dstAt, List.getElem?_cons_succ, List.getElem?_cons_zero, Option.bind_some, Option.bind_none, Act.put, List.setIfInBounds_toArray, List.set_cons_zero, List.set_cons_succ]
          clear h hall h1 h10 h11 h13 hw1 hw2
          rw [← Htk.out] at hs
          have Hs2 := Lib.hid hs.b1
          clear hs
          go_wp2
          go_roundw
          case rel => exact ⟨i + 1, a1, c1, by go_num, by omega, Hne2, Hs2.out⟩
          case measure => simp [intOf]; omega
    · obtain rfl : i = ks.length := by omega
      have hsl : (ilPg ks).sl.length = ks.length := keySl_length ks 0
      have htk : ks.take ks.length = ks := List.take_length
      have HKk : Hid (IlK d ks key') := Lib.hid ⟨hd.out, by rw [hno.out]; decide, by have := Hfan.out; omega, HK.out.asc, by have h1 := HK.out.len; have h2 := Hfan.out; omega, H2.out, HK.out.size, Hkz.out, by rw [htk] at Hne; exact Hne.out⟩
      rw [htk] at hs
      clear htk hin hi Hne
      obtain ⟨n, hn⟩ : ∃ n, n = (ilPg ks).sl.length := ⟨_, rfl⟩
      have hs : St (Know.of w) wr (memC bm bc (startL d) 0 :: rowC (.slice ap n cp) 69 2 n (slRow (ilPg ks).sl) :: blk bp (.cells #[.int .i64 ((⟨0, [], ⟨#[]⟩, true, 0⟩ : Pg)).lev, (.slice ap n cp), .string ((⟨0, [], ⟨#[]⟩, true, 0⟩ : Pg)).hi, .bool ((⟨0, [], ⟨#[]⟩, true, 0⟩ : Pg)).la, .int .u64 ((⟨0, [], ⟨#[]⟩, true, 0⟩ : Pg)).ri] 43) :: rowC (.slice ao (ks).length co) 9 1 (ks).length (stRow ks) :: blk b1 (.cells #[.int .i64 (d).th, .int .i64 (d).sn, .int .i64 (d).no, .int .i64 (d).ch, .int .i64 (d).re, .int .i64 (d).fa, .int .u64 (d).cl] 29) :: blk b0 (.cells #[.int .i64 (d).th, .int .i64 (d).sn, .int .i64 (d).no, .int .i64 (d).ch, .int .i64 (d).re, .int .i64 (d).fa, .int .u64 (d).cl] 26) :: []) := by
        rw [hn, hsl]
        exact hs.re [3, 1, 0, 2, 4, 5] rfl
      subst hn
      clear hsl
      have kp := hs.b2.k0
      have kc := hs.b5.k0
      have hle : ((ilPg ks).sl.length : Int) ≤ d.fa := HKk.out.hok.pg.le
      have q := kitPut_st (pg := ilPg ks) (id := 1) hd.out (by omega) ⟨by show (0 : Int) ≤ 0; decide, by show (0 : Int) < 1000000; decide⟩ hle hs
      have Q := Lib.hid q
      clear q hs hle
      go_wp2_with fail
      refine (Q.out).mono ?_
      clear Q kp kc
      rintro e w4 ⟨rfl, hs⟩
      have hs : St (Know.of w) w4 (memC bm bc (putPg d 1 (ilPg ks) (startL d)) 0 :: rowC (.slice ap (ilPg ks).sl.length cp) 69 2 (ilPg ks).sl.length (slRow (ilPg ks).sl) :: blk bp (.cells #[.int .i64 ((⟨0, [], ⟨#[]⟩, true, 0⟩ : Pg)).lev, (.slice ap (ilPg ks).sl.length cp), .string ((⟨0, [], ⟨#[]⟩, true, 0⟩ : Pg)).hi, .bool ((⟨0, [], ⟨#[]⟩, true, 0⟩ : Pg)).la, .int .u64 ((⟨0, [], ⟨#[]⟩, true, 0⟩ : Pg)).ri] 43) :: rowC (.slice ao (ks).length co) 9 1 (ks).length (stRow ks) :: blk b1 (.cells #[.int .i64 (d).th, .int .i64 (d).sn, .int .i64 (d).no, .int .i64 (d).ch, .int .i64 (d).re, .int .i64 (d).fa, .int .u64 (d).cl] 29) :: blk b0 (.cells #[.int .i64 (d).th, .int .i64 (d).sn, .int .i64 (d).no, .int .i64 (d).ch, .int .i64 (d).re, .int .i64 (d).fa, .int .u64 (d).cl] 26) :: []) := hs
      have kc := hs.b5.k0
      have f1 := hd.out.fa1
      have n1 := hd.out.no1
      have QN := Lib.hid (fun W => refNode_any d hd.out 1 0 (by decide) (by decide) (by decide) (by omega) W)
      have QL := Lib.hid (fun W => ltLock_any 0 (by decide) (by decide) W)
      clear f1 n1
      go_wp2_with fail
      refine (calls_same hs (QN.out _)).mono ?_
      clear hs kc QN
      rintro e w5 ⟨rfl, hs⟩
      go_wp2_with fail
      refine (QL.out _).mono ?_
      rintro e w6 ⟨rfl, rfl⟩
      go_wp2_with fail
      refine (poke_st (i := d.node 1 0) (c := ⟨ltLock 0, ⟨#[]⟩, 0⟩) hs).mono ?_
      clear hs
      rintro e w6 ⟨rfl, hs⟩
      have hs : St (Know.of w) w6 (memC bm bc (ilMem d ks) 0 :: slC (.slice ap (ilPg ks).sl.length cp) (ilPg ks) :: blk bp (.cells #[.int .i64 ((⟨0, [], ⟨#[]⟩, true, 0⟩ : Pg)).lev, (.slice ap (ilPg ks).sl.length cp), .string ((⟨0, [], ⟨#[]⟩, true, 0⟩ : Pg)).hi, .bool ((⟨0, [], ⟨#[]⟩, true, 0⟩ : Pg)).la, .int .u64 ((⟨0, [], ⟨#[]⟩, true, 0⟩ : Pg)).ri] 43) :: rowC (.slice ao (ks).length co) 9 1 (ks).length (stRow ks) :: blk b1 (.cells #[.int .i64 (d).th, .int .i64 (d).sn, .int .i64 (d).no, .int .i64 (d).ch, .int .i64 (d).re, .int .i64 (d).fa, .int .u64 (d).cl] 29) :: blk b0 (.cells #[.int .i64 (d).th, .int .i64 (d).sn, .int .i64 (d).no, .int .i64 (d).ch, .int .i64 (d).re, .int .i64 (d).fa, .int .u64 (d).cl] 26) :: []) := hs
      have kp := hs.b2.k0
      have kl := hs.b4.k0
      have Hs := Lib.hid (hs.re [1, 0, 3, 4, 5, 2] rfl)
      clear hs
      go_upto_region 16 with (fail)
      refine region_tail 5 (by kernel_rfl) (by as_aux_lemma => kernel_rfl) ?_
      simp only [List.take_succ_cons, List.take_zero, List.drop_succ_cons, List.drop_zero]
      repeat (go_big_quiet_step ((go_at_call 30; exact pure_of_same (QL.out _))))
      refine wpQuiet_nil ?_
      intro w7 hb7
      have hs := Hs.out.same hb7
      clear Hs kp kl QL hb7
      have hs : St (Know.of w) w7 (slC (.slice ap (ilFr ks).pg.sl.length cp) (ilFr ks).pg :: memC bm bc (ilMem d ks) 0 :: rowC (.slice ao (ks).length co) 9 1 (ks).length (stRow ks) :: blk b1 (.cells #[.int .i64 (d).th, .int .i64 (d).sn, .int .i64 (d).no, .int .i64 (d).ch, .int .i64 (d).re, .int .i64 (d).fa, .int .u64 (d).cl] 29) :: blk b0 (.cells #[.int .i64 (d).th, .int .i64 (d).sn, .int .i64 (d).no, .int .i64 (d).ch, .int .i64 (d).re, .int .i64 (d).fa, .int .u64 (d).cl] 26) :: blk bp (.cells #[.int .i64 ((⟨0, [], ⟨#[]⟩, true, 0⟩ : Pg)).lev, (.slice ap (ilPg ks).sl.length cp), .string ((⟨0, [], ⟨#[]⟩, true, 0⟩ : Pg)).hi, .bool ((⟨0, [], ⟨#[]⟩, true, 0⟩ : Pg)).la, .int .u64 ((⟨0, [], ⟨#[]⟩, true, 0⟩ : Pg)).ri] 43) :: []) := hs
      have q := newInsert_m (key := key') (ref := 99) (fu := ilFu ks key') hd.out HKk.out.hok rfl HKk.out.no_find HKk.out.nds0.asc HKk.out.k.fok hs
      have Q := Lib.hid q
      clear q hs
      go_wp2_with fail
      refine (Q.out).mono ?_
      clear Q
      rintro e w8 ⟨bi, s0, C0, rfl, hb0', hr0, hs⟩
      obtain ⟨k0, hk0⟩ : ∃ k0, ks[0]? = some k0 := ⟨_, List.getElem?_eq_getElem (by have := H2.out; omega)⟩
      have hrow : (stRow ks)[0]? = some (.string k0) := by simp [stRow, hk0]
      have hs := St.group_iff.2 hs
      obtain ⟨gk, rfl, cz⟩ := (show St (Know.of w) w8 (rowC (.slice ao ks.length co) 9 1 ks.length (stRow ks) :: _) from hs.b2).row_at hrow
      clear cz hk0 hrow
      have HO : Hid (IlO (Know.of w) bi bm bc d ks key' (rowC (.slice (some ⟨gk, 0, none⟩) (ks).length co) 9 1 (ks).length (stRow ks) :: blk b1 (.cells #[.int .i64 (d).th, .int .i64 (d).sn, .int .i64 (d).no, .int .i64 (d).ch, .int .i64 (d).re, .int .i64 (d).fa, .int .u64 (d).cl] 29) :: blk b0 (.cells #[.int .i64 (d).th, .int .i64 (d).sn, .int .i64 (d).no, .int .i64 (d).ch, .int .i64 (d).re, .int .i64 (d).fa, .int .u64 (d).cl] 26) :: blk bp (.cells #[.int .i64 ((⟨0, [], ⟨#[]⟩, true, 0⟩ : Pg)).lev, (.slice ap (ilPg ks).sl.length cp), .string ((⟨0, [], ⟨#[]⟩, true, 0⟩ : Pg)).hi, .bool ((⟨0, [], ⟨#[]⟩, true, 0⟩ : Pg)).la, .int .u64 ((⟨0, [], ⟨#[]⟩, true, 0⟩ : Pg)).ri] 43) :: []) false 31 0 w8) := Lib.hid (IlO.start HKk.out hb0' hr0 hs)
      clear hs hr0 hb0'
      go_upto_region 17 with (fail)
      go_cut [18] from 999 to 0 (fun v wx => ∃ j : Nat, v = .int .i64 j ∧ j < ks.length ∧ Hid (IlO (Know.of w) bi bm bc d ks key' (rowC (.slice (some ⟨gk, 0, none⟩) (ks).length co) 9 1 (ks).length (stRow ks) :: blk b1 (.cells #[.int .i64 (d).th, .int .i64 (d).sn, .int .i64 (d).no, .int .i64 (d).ch, .int .i64 (d).re, .int .i64 (d).fa, .int .u64 (d).cl] 29) :: blk b0 (.cells #[.int .i64 (d).th, .int .i64 (d).sn, .int .i64 (d).no, .int .i64 (d).ch, .int .i64 (d).re, .int .i64 (d).fa, .int .u64 (d).cl] 26) :: blk bp (.cells #[.int .i64 ((⟨0, [], ⟨#[]⟩, true, 0⟩ : Pg)).lev, (.slice ap (ilPg ks).sl.length cp), .string ((⟨0, [], ⟨#[]⟩, true, 0⟩ : Pg)).hi, .bool ((⟨0, [], ⟨#[]⟩, true, 0⟩ : Pg)).la, .int .u64 ((⟨0, [], ⟨#[]⟩, true, 0⟩ : Pg)).ri] 43) :: []) false 31 0 wx))
      case first =>
        as_aux_lemma =>
        have h2 := H2.out
        obtain ⟨j, hj, hj2⟩ : ∃ j : Nat, at' % (ks.length : Int) = j ∧ j < ks.length := ⟨(at' % (ks.length : Int)).toNat, by have := Int.emod_nonneg at' (show (ks.length : Int) ≠ 0 by omega); omega, by have := Int.emod_lt_of_pos at' (show (0 : Int) < ks.length by omega); omega⟩
        have q := fun w => mod_any at' ks.length (by omega) (by omega) w
        rw [hj] at q
        have Q := Lib.hid q
        clear q hj h2
        go_wp2_with fail
        refine (Q.out _).mono ?_
        rintro e w9 ⟨rfl, rfl⟩
        go_wp2
        go_meet
        exact ⟨_, rfl, hj2, HO⟩
      case rest =>
      clear HO
      obtain ⟨j0, rfl, hj0, HO⟩ := hcut
      apply_assumption
      obtain ⟨L, s, t, C, h1, h2, h3, h4, hs⟩ := HO.out
      obtain ⟨kw, hkw⟩ : ∃ kw, ks[j0]? = some kw := ⟨_, List.getElem?_eq_getElem hj0⟩
      have kl := hs.b3.k0
      have ck := (show St (Know.of w) _ (rowC _ _ _ _ (stRow ks) :: _) from hs.b2).row_cell (show (stRow ks)[j0]? = some (.string kw) by simp [stRow, hkw])
      have Hs := Lib.hid hs
      have Hf := Lib.hid (And.intro hkw (And.intro h1 (And.intro h2 (And.intro h3 h4))))
      clear hs h1 h2 h3 h4 hkw HO
      go_upto_region 18 with (fail)
      refine region_tail 5 (by kernel_rfl) (by as_aux_lemma => kernel_rfl) ?_
      simp only [List.take_succ_cons, List.take_zero, List.drop_succ_cons, List.drop_zero]
      repeat (go_big_quiet_step (fail))
      refine wpQuiet_nil ?_
      intro w9 hb9
      have q := newFind_st (d := d) (key := kw) (level := ((0 : Nat) : Int)) (Hs.out.same hb9)
      have Q := Lib.hid q
      clear q Hs kl ck hb9
      go_wp2_with fail
      refine (Q.out).mono ?_
      clear Q
      rintro e w10 ⟨bf, rfl, hs⟩
      have HS : Hid (IlS (Know.of w) bi bf bm bc d ks key' (rowC (.slice (some ⟨gk, 0, none⟩) (ks).length co) 9 1 (ks).length (stRow ks) :: blk b1 (.cells #[.int .i64 (d).th, .int .i64 (d).sn, .int .i64 (d).no, .int .i64 (d).ch, .int .i64 (d).re, .int .i64 (d).fa, .int .u64 (d).cl] 29) :: blk b0 (.cells #[.int .i64 (d).th, .int .i64 (d).sn, .int .i64 (d).no, .int .i64 (d).ch, .int .i64 (d).re, .int .i64 (d).fa, .int .u64 (d).cl] 26) :: blk bp (.cells #[.int .i64 ((⟨0, [], ⟨#[]⟩, true, 0⟩ : Pg)).lev, (.slice ap (ilPg ks).sl.length cp), .string ((⟨0, [], ⟨#[]⟩, true, 0⟩ : Pg)).hi, .bool ((⟨0, [], ⟨#[]⟩, true, 0⟩ : Pg)).la, .int .u64 ((⟨0, [], ⟨#[]⟩, true, 0⟩ : Pg)).ri] 43) :: []) j0 false 31 0 w10) := Lib.hid (IlO.find Hf.out.1 (fun B => ⟨L, s, t, C, Hf.out.2.1, Hf.out.2.2.1, Hf.out.2.2.2.1, Hf.out.2.2.2.2, hs B⟩))
      clear hs Hf
      go_upto_region 20 with (fail)
      go_cut [20, 21] from 999 to 0 (fun v20 v21 wx => v20 = .bool false ∧ v21 = .int .i64 0 ∧ Hid (IlS (Know.of w) bi bf bm bc d ks key' (rowC (.slice (some ⟨gk, 0, none⟩) (ks).length co) 9 1 (ks).length (stRow ks) :: blk b1 (.cells #[.int .i64 (d).th, .int .i64 (d).sn, .int .i64 (d).no, .int .i64 (d).ch, .int .i64 (d).re, .int .i64 (d).fa, .int .u64 (d).cl] 29) :: blk b0 (.cells #[.int .i64 (d).th, .int .i64 (d).sn, .int .i64 (d).no, .int .i64 (d).ch, .int .i64 (d).re, .int .i64 (d).fa, .int .u64 (d).cl] 26) :: blk bp (.cells #[.int .i64 ((⟨0, [], ⟨#[]⟩, true, 0⟩ : Pg)).lev, (.slice ap (ilPg ks).sl.length cp), .string ((⟨0, [], ⟨#[]⟩, true, 0⟩ : Pg)).hi, .bool ((⟨0, [], ⟨#[]⟩, true, 0⟩ : Pg)).la, .int .u64 ((⟨0, [], ⟨#[]⟩, true, 0⟩ : Pg)).ri] 43) :: []) j0 false 31 0 wx))
      case first =>
        as_aux_lemma =>
        go_wp2
        go_meet
        exact ⟨rfl, rfl, HS⟩
      case rest =>
      clear HS
      obtain ⟨rfl, rfl, HS⟩ := hcut
      apply_assumption
      go_cut [18, 19, 20, 21] from 999 to 0 (fun _ _ v20 _ wx => v20 = .bool true ∧ ∃ acc : Nat, acc ≤ 2000 ∧ Hid (∃ (L : List Cel) (s : InsS) (t : List (List Nd)) (C : List Comp), s.pc = 3 ∧ IlI d ks key' L s t ∧ InsRep d (ilFr ks) (ilFu ks key') bi s C ∧ St (Know.of w) wx (group C :: memC bm bc L acc :: rowC (.slice (some ⟨gk, 0, none⟩) (ks).length co) 9 1 (ks).length (stRow ks) :: blk b1 (.cells #[.int .i64 (d).th, .int .i64 (d).sn, .int .i64 (d).no, .int .i64 (d).ch, .int .i64 (d).re, .int .i64 (d).fa, .int .u64 (d).cl] 29) :: blk b0 (.cells #[.int .i64 (d).th, .int .i64 (d).sn, .int .i64 (d).no, .int .i64 (d).ch, .int .i64 (d).re, .int .i64 (d).fa, .int .u64 (d).cl] 26) :: blk bp (.cells #[.int .i64 ((⟨0, [], ⟨#[]⟩, true, 0⟩ : Pg)).lev, (.slice ap (ilPg ks).sl.length cp), .string ((⟨0, [], ⟨#[]⟩, true, 0⟩ : Pg)).hi, .bool ((⟨0, [], ⟨#[]⟩, true, 0⟩ : Pg)).la, .int .u64 ((⟨0, [], ⟨#[]⟩, true, 0⟩ : Pg)).ri] 43) :: [])))
      case first =>
        go_wp2
        go_loopw [18, 19, 20, 21] (fun v18 v19 v20 v21 wr => ∃ (j bf k acc ms : Nat) (dn : Bool), v18 = .int .i64 j ∧ v19 = (.pointer (some ⟨bf, 0, none⟩)) ∧ v20 = .bool dn ∧ v21 = .int .i64 k ∧ j < ks.length ∧ k ≤ lp + 400 ∧ acc ≤ 2 * k ∧ Hid (ms ≤ 31 - (k - lp)) ∧ Hid (IlS (Know.of w) bi bf bm bc d ks key' (rowC (.slice (some ⟨gk, 0, none⟩) (ks).length co) 9 1 (ks).length (stRow ks) :: blk b1 (.cells #[.int .i64 (d).th, .int .i64 (d).sn, .int .i64 (d).no, .int .i64 (d).ch, .int .i64 (d).re, .int .i64 (d).fa, .int .u64 (d).cl] 29) :: blk b0 (.cells #[.int .i64 (d).th, .int .i64 (d).sn, .int .i64 (d).no, .int .i64 (d).ch, .int .i64 (d).re, .int .i64 (d).fa, .int .u64 (d).cl] 26) :: blk bp (.cells #[.int .i64 ((⟨0, [], ⟨#[]⟩, true, 0⟩ : Pg)).lev, (.slice ap (ilPg ks).sl.length cp), .string ((⟨0, [], ⟨#[]⟩, true, 0⟩ : Pg)).hi, .bool ((⟨0, [], ⟨#[]⟩, true, 0⟩ : Pg)).la, .int .u64 ((⟨0, [], ⟨#[]⟩, true, 0⟩ : Pg)).ri] 43) :: []) j dn ms acc wr)) (fun _ _ _ v _ => 1000 - (intOf v).toNat)
        case atStart => exact ⟨j0, bf, 0, 0, 31, false, rfl, rfl, rfl, rfl, hj0, by omega, by omega, Lib.hid (by omega), HS⟩
        case round =>
          clear HS
          obtain ⟨j, bf, k, acc, ms, dn, rfl, rfl, rfl, rfl, hj, hk, hacc, Hms, HS⟩ := hrel
          by_cases hlt : k < lp + 400
          · go_upto_region 23 with (fail)
            go_cut [139] from 121 to 140 (fun v wx => ∃ b : Bool, v = .bool b ∧ Hid (lp ≤ k → b = true) ∧ Hid (IlS (Know.of w) bi bf bm bc d ks key' (rowC (.slice (some ⟨gk, 0, none⟩) (ks).length co) 9 1 (ks).length (stRow ks) :: blk b1 (.cells #[.int .i64 (d).th, .int .i64 (d).sn, .int .i64 (d).no, .int .i64 (d).ch, .int .i64 (d).re, .int .i64 (d).fa, .int .u64 (d).cl] 29) :: blk b0 (.cells #[.int .i64 (d).th, .int .i64 (d).sn, .int .i64 (d).no, .int .i64 (d).ch, .int .i64 (d).re, .int .i64 (d).fa, .int .u64 (d).cl] 26) :: blk bp (.cells #[.int .i64 ((⟨0, [], ⟨#[]⟩, true, 0⟩ : Pg)).lev, (.slice ap (ilPg ks).sl.length cp), .string ((⟨0, [], ⟨#[]⟩, true, 0⟩ : Pg)).hi, .bool ((⟨0, [], ⟨#[]⟩, true, 0⟩ : Pg)).la, .int .u64 ((⟨0, [], ⟨#[]⟩, true, 0⟩ : Pg)).ri] 43) :: []) j dn ms acc wx))
            case first =>
              as_aux_lemma =>
              have hbel : Below w.heap.size w wr := by
                obtain ⟨_, _, _, _, _, _, _, _, _, _, _, _, _, _, hs⟩ := HS.out
                exact hs.below (Know.Le.refl _)
              by_cases hkp : k < lp
              · obtain ⟨qb, qoff, rfl, hqlt, kq, wq⟩ := Hq.out.2 k hkp
                rw [← hbel.cell (p := ⟨qb, qoff + k, none⟩) hqlt] at kq
                generalize P k = pk at *
                have wq := wf_u8 wq
                obtain ⟨wq1, wq2⟩ := wq
                clear hbel
                go_wp2
                go_meet
                exact ⟨_, rfl, Lib.hid (fun h => by omega), HS⟩
              · clear hbel
                go_wp2
                go_meet
                exact ⟨true, rfl, Lib.hid (fun _ => rfl), HS⟩
            case rest =>
            clear HS
            obtain ⟨pk1, rfl, Hb1, HS⟩ := hcut
            apply_assumption
            go_cut [20] from 140 to 143 (fun v wx => ∃ (dn' : Bool) (acc' ms' : Nat), v = .bool dn' ∧ acc' ≤ acc + 1 ∧ Hid (ms' ≤ 31 - (k + 1 - lp)) ∧ Hid (IlS (Know.of w) bi bf bm bc d ks key' (rowC (.slice (some ⟨gk, 0, none⟩) (ks).length co) 9 1 (ks).length (stRow ks) :: blk b1 (.cells #[.int .i64 (d).th, .int .i64 (d).sn, .int .i64 (d).no, .int .i64 (d).ch, .int .i64 (d).re, .int .i64 (d).fa, .int .u64 (d).cl] 29) :: blk b0 (.cells #[.int .i64 (d).th, .int .i64 (d).sn, .int .i64 (d).no, .int .i64 (d).ch, .int .i64 (d).re, .int .i64 (d).fa, .int .u64 (d).cl] 26) :: blk bp (.cells #[.int .i64 ((⟨0, [], ⟨#[]⟩, true, 0⟩ : Pg)).lev, (.slice ap (ilPg ks).sl.length cp), .string ((⟨0, [], ⟨#[]⟩, true, 0⟩ : Pg)).hi, .bool ((⟨0, [], ⟨#[]⟩, true, 0⟩ : Pg)).la, .int .u64 ((⟨0, [], ⟨#[]⟩, true, 0⟩ : Pg)).ri] 43) :: []) j dn' ms' acc' wx))
            case first =>
              as_aux_lemma =>
              cases pk1 with
              | false =>
                have Hms2 : Hid (ms ≤ 31 - (k + 1 - lp)) := Lib.hid (by
                  have := Hms.out
                  rcases Nat.lt_or_ge k lp with h | h
                  · omega
                  · have := Hb1.out h; cases this)
                go_wp2
                go_meet
                exact ⟨dn, acc, ms, rfl, by omega, Hms2, HS⟩
              | true =>
                have q := HS.out.ins HKk.out (by omega)
                have Q := Lib.hid q
                have Hms2 : Hid (ms - 1 ≤ 31 - (k + 1 - lp)) := Lib.hid (by have := Hms.out; omega)
                clear q HS
                go_wp2_with fail
                refine (Q.out).mono ?_
                clear Q
                rintro e w11 ⟨dn', acc', rfl, hacc', hS⟩
                have HS := Lib.hid hS
                clear hS
                go_wp2
                go_meet
                exact ⟨dn', acc', ms - 1, rfl, hacc', Hms2, HS⟩
            case rest =>
            clear HS Hb1 Hms
            obtain ⟨dn', acc', ms', rfl, hacc', Hms, HS⟩ := hcut
            apply_assumption
            have hac2 : acc' ≤ 2 * k + 1 := by omega
            clear hacc hacc'
            go_upto_region 25 with (fail)
            go_cut [154] from 140 to 155 (fun v wx => ∃ b : Bool, v = .bool b ∧ Hid (IlS (Know.of w) bi bf bm bc d ks key' (rowC (.slice (some ⟨gk, 0, none⟩) (ks).length co) 9 1 (ks).length (stRow ks) :: blk b1 (.cells #[.int .i64 (d).th, .int .i64 (d).sn, .int .i64 (d).no, .int .i64 (d).ch, .int .i64 (d).re, .int .i64 (d).fa, .int .u64 (d).cl] 29) :: blk b0 (.cells #[.int .i64 (d).th, .int .i64 (d).sn, .int .i64 (d).no, .int .i64 (d).ch, .int .i64 (d).re, .int .i64 (d).fa, .int .u64 (d).cl] 26) :: blk bp (.cells #[.int .i64 ((⟨0, [], ⟨#[]⟩, true, 0⟩ : Pg)).lev, (.slice ap (ilPg ks).sl.length cp), .string ((⟨0, [], ⟨#[]⟩, true, 0⟩ : Pg)).hi, .bool ((⟨0, [], ⟨#[]⟩, true, 0⟩ : Pg)).la, .int .u64 ((⟨0, [], ⟨#[]⟩, true, 0⟩ : Pg)).ri] 43) :: []) j dn' ms' acc' wx))
            case first =>
              as_aux_lemma =>
              have hbel : Below w.heap.size w wc := by
                obtain ⟨_, _, _, _, _, _, _, _, _, _, _, _, _, _, hs⟩ := HS.out
                exact hs.below (Know.Le.refl _)
              by_cases hkp : k < lp
              · obtain ⟨qb, qoff, rfl, hqlt, kq, wq⟩ := Hq.out.2 k hkp
                rw [← hbel.cell (p := ⟨qb, qoff + k, none⟩) hqlt] at kq
                generalize P k = pk at *
                have wq := wf_u8 wq
                obtain ⟨wq1, wq2⟩ := wq
                clear hbel
                go_wp2
                go_meet
                exact ⟨_, rfl, HS⟩
              · clear hbel
                go_wp2
                go_meet
                exact ⟨true, rfl, HS⟩
            case rest =>
            clear HS
            obtain ⟨pk2, rfl, HS⟩ := hcut
            apply_assumption
            cases pk2 with
            | false =>
              go_wp2
              go_roundw
              case rel => exact ⟨j, bf, k + 1, acc', ms', dn', rfl, rfl, rfl, by go_num, hj, by omega, by omega, Hms, HS⟩
              case measure => simp [intOf]; omega
            | true =>
              have q := HS.out.find HKk.out (by omega)
              have Q := Lib.hid q
              clear q HS
              go_wp2_with fail
              refine (Q.out).mono ?_
              clear Q
              rintro e w11 ⟨acc2, hacc2, ⟨rfl, hS⟩ | ⟨rfl, id, pg, rd, B, va, va2, kw2, hF, L2, s2, t2, C2, g1, g2, g3, g4, hs⟩⟩
              · have HS := Lib.hid hS
                clear hS
                go_wp2
                go_roundw
                case rel => exact ⟨j, bf, k + 1, acc2, ms', dn', rfl, rfl, rfl, by go_num, hj, by omega, by omega, Hms, HS⟩
                case measure => simp [intOf]; omega
              · have HF := Lib.hid hF
                have HG := Lib.hid (And.intro g1 (And.intro g2 (And.intro g3 g4)))
                have q := findNode_st (s := (⟨2, id, pg, rd⟩ : FdS)) rfl (show pg.sl.length ≤ 1000000 by have := HF.out.len; omega) hs
                have Q := Lib.hid q
                clear q hs hF g1 g2 g3 g4
                go_wp2_with fail
                refine (Q.out).mono ?_
                clear Q
                rintro e w12 ⟨va', rfl, hs⟩
                obtain ⟨a1, cap1, hv, _, _⟩ := (show St (Know.of w) w12 (rowC va' 69 2 pg.sl.length (slRow pg.sl) :: _) from hs).row_read
                subst hv
                have hs := hs.made (.cells #[.int .i64 (pg).lev, (.slice a1 pg.sl.length cap1), .string (pg).hi, .bool (pg).la, .int .u64 (pg).ri] 43)
                obtain ⟨bq, hbq⟩ : ∃ bq, bq = w12.heap.size := ⟨_, rfl⟩
                go_upto_region 28 with (fail)
                rw [← hbq] at hs ⊢
                clear hbq
                refine wp_ck hs ?_
                clear hs
                intro w13 hs
                have hs : St (Know.of w) w13 (blk bq (.cells #[.int .i64 (pg).lev, (.slice a1 pg.sl.length cap1), .string (pg).hi, .bool (pg).la, .int .u64 (pg).ri] 43) :: slC (.slice a1 pg.sl.length cap1) pg :: group C2 :: memC bm bc L2 acc2 :: rowC (.slice (some ⟨gk, 0, none⟩) (ks).length co) 9 1 (ks).length (stRow ks) :: blk b1 (.cells #[.int .i64 (d).th, .int .i64 (d).sn, .int .i64 (d).no, .int .i64 (d).ch, .int .i64 (d).re, .int .i64 (d).fa, .int .u64 (d).cl] 29) :: blk b0 (.cells #[.int .i64 (d).th, .int .i64 (d).sn, .int .i64 (d).no, .int .i64 (d).ch, .int .i64 (d).re, .int .i64 (d).fa, .int .u64 (d).cl] 26) :: blk bp (.cells #[.int .i64 ((⟨0, [], ⟨#[]⟩, true, 0⟩ : Pg)).lev, (.slice ap (ilPg ks).sl.length cp), .string ((⟨0, [], ⟨#[]⟩, true, 0⟩ : Pg)).hi, .bool ((⟨0, [], ⟨#[]⟩, true, 0⟩ : Pg)).la, .int .u64 ((⟨0, [], ⟨#[]⟩, true, 0⟩ : Pg)).ri] 43) :: []) := (hs.re [2, 3, 0, 1, 4, 5] rfl).tail.tail
                have kp := hs.k0
                obtain ⟨gs, hgs, cz⟩ := (show St (Know.of w) w13 (rowC (.slice a1 pg.sl.length cap1) 69 2 pg.sl.length (slRow pg.sl) :: _) from hs.b1).row_at (slRow_at pg.sl _ _ HF.out.slot).2
                subst hgs
                clear cz
                have ck := (show St (Know.of w) w13 (rowC _ _ _ _ (stRow ks) :: _) from hs.b4).row_cell (show (stRow ks)[j]? = some (.string kw2) by simp [stRow, HF.out.key])
                have hsl := (show St (Know.of w) w13 (rowC _ _ _ _ (slRow pg.sl) :: _) from hs.b1).row_slots (by have := HF.out.len; omega)
                have qf := fun W (hb : Below w13.heap.size w13 W) => refFind_any (cap := cap1) (key := kw2) W (hsl.same hb)
                rw [HF.out.any] at qf
                have QF := Lib.hid (fun wz (hy : ∃ x : Ext, wz = over w13 x) => qf wz (Pure.below hy))
                clear qf hsl
                refine region_pure (by kernel_rfl) (by kernel_rfl) ?_
                repeat (go_big_quiet_step ((go_at_call 51; exact pure_of (QF.out _ ⟨_, rfl⟩))))
                refine wpQuiet_nil ?_
                intro w14 hb14
                have hs := hs.same hb14
                clear kp ck hb14 QF
                have kp := hs.k0
                have cs := (show St (Know.of w) w14 (rowC _ _ _ _ (slRow pg.sl) :: _) from hs.b1).row_cell (slRow_at pg.sl _ _ HF.out.slot).2
                have hlo : loK pg.sl kw2 < pg.sl.length := (List.getElem?_eq_some_iff.1 HF.out.slot).1
                have hpl : pg.sl.length ≤ 1000 := HF.out.len
                have hw2 : IntKind.u64.wrap ((j : Int) + 1) = (j : Int) + 1 := by rw [IntKind.wrap_u64]; omega
                have z : (((j + 1 : Nat) : Int) != (j : Int) + 1) = false := by simp
                go_upto_region 31 with (fail)
                clear kp cs hlo hpl hw2 z
                have hs : St (Know.of w) w14 (group C2 :: memC bm bc L2 acc2 :: rowC (.slice (some ⟨gk, 0, none⟩) (ks).length co) 9 1 (ks).length (stRow ks) :: blk b1 (.cells #[.int .i64 (d).th, .int .i64 (d).sn, .int .i64 (d).no, .int .i64 (d).ch, .int .i64 (d).re, .int .i64 (d).fa, .int .u64 (d).cl] 29) :: blk b0 (.cells #[.int .i64 (d).th, .int .i64 (d).sn, .int .i64 (d).no, .int .i64 (d).ch, .int .i64 (d).re, .int .i64 (d).fa, .int .u64 (d).cl] 26) :: blk bp (.cells #[.int .i64 ((⟨0, [], ⟨#[]⟩, true, 0⟩ : Pg)).lev, (.slice ap (ilPg ks).sl.length cp), .string ((⟨0, [], ⟨#[]⟩, true, 0⟩ : Pg)).hi, .bool ((⟨0, [], ⟨#[]⟩, true, 0⟩ : Pg)).la, .int .u64 ((⟨0, [], ⟨#[]⟩, true, 0⟩ : Pg)).ri] 43) :: []) := hs.tail.tail
                clear HF
                go_cut [18] from 186 to 191 (fun v wx => ∃ j' : Nat, v = .int .i64 j' ∧ j' < ks.length ∧ St (Know.of w) wx (group C2 :: memC bm bc L2 acc2 :: rowC (.slice (some ⟨gk, 0, none⟩) (ks).length co) 9 1 (ks).length (stRow ks) :: blk b1 (.cells #[.int .i64 (d).th, .int .i64 (d).sn, .int .i64 (d).no, .int .i64 (d).ch, .int .i64 (d).re, .int .i64 (d).fa, .int .u64 (d).cl] 29) :: blk b0 (.cells #[.int .i64 (d).th, .int .i64 (d).sn, .int .i64 (d).no, .int .i64 (d).ch, .int .i64 (d).re, .int .i64 (d).fa, .int .u64 (d).cl] 26) :: blk bp (.cells #[.int .i64 ((⟨0, [], ⟨#[]⟩, true, 0⟩ : Pg)).lev, (.slice ap (ilPg ks).sl.length cp), .string ((⟨0, [], ⟨#[]⟩, true, 0⟩ : Pg)).hi, .bool ((⟨0, [], ⟨#[]⟩, true, 0⟩ : Pg)).la, .int .u64 ((⟨0, [], ⟨#[]⟩, true, 0⟩ : Pg)).ri] 43) :: []))
                case first =>
                  as_aux_lemma =>
                  have h2 := H2.out
                  have hm : ((j : Int) + 1).tmod (ks.length : Int) = (((j + 1) % ks.length : Nat) : Int) := by
                    rw [Int.tmod_eq_emod_of_nonneg (by omega), Int.natCast_emod, Int.natCast_add]
                    rfl
                  have hj' : (j + 1) % ks.length < ks.length := Nat.mod_lt _ (by omega)
                  generalize (j + 1) % ks.length = j' at hm hj'
                  have hl0 : ¬ (ks.length : Int) = 0 := by omega
                  go_wp2
                  go_meet
                  exact ⟨j', rfl, hj', hs⟩
                case rest =>
                clear hs hj
                obtain ⟨j', rfl, hj, hs⟩ := hcut
                apply_assumption
                obtain ⟨kw, hkw⟩ : ∃ kw, ks[j']? = some kw := ⟨_, List.getElem?_eq_getElem hj⟩
                have kl := hs.b3.k0
                have ck := (show St (Know.of w) _ (rowC _ _ _ _ (stRow ks) :: _) from hs.b2).row_cell (show (stRow ks)[j']? = some (.string kw) by simp [stRow, hkw])
                have Hs := Lib.hid hs
                have Hkw := Lib.hid hkw
                clear hs hkw
                go_upto_region 32 with (fail)
                refine region_tail 5 (by kernel_rfl) (by as_aux_lemma => kernel_rfl) ?_
                simp only [List.take_succ_cons, List.take_zero, List.drop_succ_cons, List.drop_zero]
                repeat (go_big_quiet_step (fail))
                refine wpQuiet_nil ?_
                intro w15 hb15
                have q := newFind_st (d := d) (key := kw) (level := ((0 : Nat) : Int)) (Hs.out.same hb15)
                have Q := Lib.hid q
                clear q Hs kl ck hb15
                go_wp2_with fail
                refine (Q.out).mono ?_
                clear Q
                rintro e w16 ⟨bf', rfl, hs⟩
                have HS : Hid (IlS (Know.of w) bi bf' bm bc d ks key' (rowC (.slice (some ⟨gk, 0, none⟩) (ks).length co) 9 1 (ks).length (stRow ks) :: blk b1 (.cells #[.int .i64 (d).th, .int .i64 (d).sn, .int .i64 (d).no, .int .i64 (d).ch, .int .i64 (d).re, .int .i64 (d).fa, .int .u64 (d).cl] 29) :: blk b0 (.cells #[.int .i64 (d).th, .int .i64 (d).sn, .int .i64 (d).no, .int .i64 (d).ch, .int .i64 (d).re, .int .i64 (d).fa, .int .u64 (d).cl] 26) :: blk bp (.cells #[.int .i64 ((⟨0, [], ⟨#[]⟩, true, 0⟩ : Pg)).lev, (.slice ap (ilPg ks).sl.length cp), .string ((⟨0, [], ⟨#[]⟩, true, 0⟩ : Pg)).hi, .bool ((⟨0, [], ⟨#[]⟩, true, 0⟩ : Pg)).la, .int .u64 ((⟨0, [], ⟨#[]⟩, true, 0⟩ : Pg)).ri] 43) :: []) j' dn' ms' acc2 w16) := Lib.hid (IlO.find Hkw.out (fun B => ⟨L2, s2, t2, C2, HG.out.1, HG.out.2.1, HG.out.2.2.1, HG.out.2.2.2, hs B⟩))
                clear hs HG Hkw
                go_wp2
                go_roundw
                case rel => exact ⟨j', bf', k + 1, acc2, ms', dn', rfl, rfl, rfl, by go_num, hj, by omega, by omega, Hms, HS⟩
                case measure => simp [intOf]; omega
          · have hL : dn = true ∧ Hid (∃ (L : List Cel) (s : InsS) (t : List (List Nd)) (C : List Comp), s.pc = 3 ∧ IlI d ks key' L s t ∧ InsRep d (ilFr ks) (ilFu ks key') bi s C ∧ St (Know.of w) wr (group C :: memC bm bc L acc :: rowC (.slice (some ⟨gk, 0, none⟩) (ks).length co) 9 1 (ks).length (stRow ks) :: blk b1 (.cells #[.int .i64 (d).th, .int .i64 (d).sn, .int .i64 (d).no, .int .i64 (d).ch, .int .i64 (d).re, .int .i64 (d).fa, .int .u64 (d).cl] 29) :: blk b0 (.cells #[.int .i64 (d).th, .int .i64 (d).sn, .int .i64 (d).no, .int .i64 (d).ch, .int .i64 (d).re, .int .i64 (d).fa, .int .u64 (d).cl] 26) :: blk bp (.cells #[.int .i64 ((⟨0, [], ⟨#[]⟩, true, 0⟩ : Pg)).lev, (.slice ap (ilPg ks).sl.length cp), .string ((⟨0, [], ⟨#[]⟩, true, 0⟩ : Pg)).hi, .bool ((⟨0, [], ⟨#[]⟩, true, 0⟩ : Pg)).la, .int .u64 ((⟨0, [], ⟨#[]⟩, true, 0⟩ : Pg)).ri] 43) :: [])) := by
              have h0 : ms = 0 := by have := Hms.out; omega
              subst h0
              obtain ⟨q1, q2⟩ := HS.out.last HKk.out
              exact ⟨q1, Lib.hid q2⟩
            obtain ⟨rfl, HL⟩ := hL
            clear HS Hms
            have hac3 : acc ≤ 2000 := by omega
            go_wp2
            go_meet
            exact ⟨rfl, acc, hac3, HL⟩
      case rest =>
      clear HS hj0
      obtain ⟨rfl, acc, hacc, HL⟩ := hcut
      apply_assumption
      obtain ⟨L, s, t, C, g1, g2, g3, hs⟩ := HL.out
      have HG := Lib.hid (And.intro g1 (And.intro g2 g3))
      have kl := hs.b3.k0
      have q := newFind_st (d := d) (key := key') (level := ((0 : Nat) : Int)) hs
      have Q := Lib.hid q
      clear q hs HL g1 g2 g3
      go_wp2_with fail
      refine (Q.out).mono ?_
      clear Q kl
      rintro e w11 ⟨bg, rfl, hs⟩
      have HS : Hid (IlG (Know.of w) bi bg bm bc d ks key' (rowC (.slice (some ⟨gk, 0, none⟩) (ks).length co) 9 1 (ks).length (stRow ks) :: blk b1 (.cells #[.int .i64 (d).th, .int .i64 (d).sn, .int .i64 (d).no, .int .i64 (d).ch, .int .i64 (d).re, .int .i64 (d).fa, .int .u64 (d).cl] 29) :: blk b0 (.cells #[.int .i64 (d).th, .int .i64 (d).sn, .int .i64 (d).no, .int .i64 (d).ch, .int .i64 (d).re, .int .i64 (d).fa, .int .u64 (d).cl] 26) :: blk bp (.cells #[.int .i64 ((⟨0, [], ⟨#[]⟩, true, 0⟩ : Pg)).lev, (.slice ap (ilPg ks).sl.length cp), .string ((⟨0, [], ⟨#[]⟩, true, 0⟩ : Pg)).hi, .bool ((⟨0, [], ⟨#[]⟩, true, 0⟩ : Pg)).la, .int .u64 ((⟨0, [], ⟨#[]⟩, true, 0⟩ : Pg)).ri] 43) :: []) fd0 200 acc w11) := Lib.hid (IlG.start HKk.out (fun B => ⟨L, s, t, C, HG.out.1, HG.out.2.1, HG.out.2.2, hs B⟩))
      clear hs HG
      go_upto_region 34 with (fail)
      go_cut [27] from 999 to 0 (fun v wx => v = .int .i64 0 ∧ Hid (IlG (Know.of w) bi bg bm bc d ks key' (rowC (.slice (some ⟨gk, 0, none⟩) (ks).length co) 9 1 (ks).length (stRow ks) :: blk b1 (.cells #[.int .i64 (d).th, .int .i64 (d).sn, .int .i64 (d).no, .int .i64 (d).ch, .int .i64 (d).re, .int .i64 (d).fa, .int .u64 (d).cl] 29) :: blk b0 (.cells #[.int .i64 (d).th, .int .i64 (d).sn, .int .i64 (d).no, .int .i64 (d).ch, .int .i64 (d).re, .int .i64 (d).fa, .int .u64 (d).cl] 26) :: blk bp (.cells #[.int .i64 ((⟨0, [], ⟨#[]⟩, true, 0⟩ : Pg)).lev, (.slice ap (ilPg ks).sl.length cp), .string ((⟨0, [], ⟨#[]⟩, true, 0⟩ : Pg)).hi, .bool ((⟨0, [], ⟨#[]⟩, true, 0⟩ : Pg)).la, .int .u64 ((⟨0, [], ⟨#[]⟩, true, 0⟩ : Pg)).ri] 43) :: []) fd0 200 acc wx))
      case first =>
        as_aux_lemma =>
        go_wp2
        go_meet
        exact ⟨rfl, HS⟩
      case rest =>
      clear HS
      obtain ⟨rfl, HS⟩ := hcut
      apply_assumption
      go_cut [27] from 999 to 0 (fun _ wx => ∃ (acc' : Nat) (id : Int) (pg : Pg) (rd : RdS) (B : VisB) (va va2 : Value) (x : InX) (L : List Cel), Hid (pg.sl[loK pg.sl key']? = some ⟨key', 99⟩ ∧ (pg.sl.any fun s => s.k.toList == key'.toList) = true ∧ pg.sl.length ≤ 1000 ∧ x.err = 0) ∧ St (Know.of w) wx (fdL bg .nilFunc B va va2 d key' ((0 : Nat) : Int) ⟨2, id, pg, rd⟩ ++ (insC bi .nilFunc d x :: memC bm bc L acc' :: rowC (.slice (some ⟨gk, 0, none⟩) (ks).length co) 9 1 (ks).length (stRow ks) :: blk b1 (.cells #[.int .i64 (d).th, .int .i64 (d).sn, .int .i64 (d).no, .int .i64 (d).ch, .int .i64 (d).re, .int .i64 (d).fa, .int .u64 (d).cl] 29) :: blk b0 (.cells #[.int .i64 (d).th, .int .i64 (d).sn, .int .i64 (d).no, .int .i64 (d).ch, .int .i64 (d).re, .int .i64 (d).fa, .int .u64 (d).cl] 26) :: blk bp (.cells #[.int .i64 ((⟨0, [], ⟨#[]⟩, true, 0⟩ : Pg)).lev, (.slice ap (ilPg ks).sl.length cp), .string ((⟨0, [], ⟨#[]⟩, true, 0⟩ : Pg)).hi, .bool ((⟨0, [], ⟨#[]⟩, true, 0⟩ : Pg)).la, .int .u64 ((⟨0, [], ⟨#[]⟩, true, 0⟩ : Pg)).ri] 43) :: [])))
      case first =>
        as_aux_lemma =>
        go_wp2
        go_loopw [27] (fun vn wr => ∃ (n m acc : Nat) (f : FdS), n + m ≤ 200 ∧ vn = .int .i64 n ∧ f.pc ≠ 2 ∧ acc ≤ 2000 + n ∧ Hid (IlG (Know.of w) bi bg bm bc d ks key' (rowC (.slice (some ⟨gk, 0, none⟩) (ks).length co) 9 1 (ks).length (stRow ks) :: blk b1 (.cells #[.int .i64 (d).th, .int .i64 (d).sn, .int .i64 (d).no, .int .i64 (d).ch, .int .i64 (d).re, .int .i64 (d).fa, .int .u64 (d).cl] 29) :: blk b0 (.cells #[.int .i64 (d).th, .int .i64 (d).sn, .int .i64 (d).no, .int .i64 (d).ch, .int .i64 (d).re, .int .i64 (d).fa, .int .u64 (d).cl] 26) :: blk bp (.cells #[.int .i64 ((⟨0, [], ⟨#[]⟩, true, 0⟩ : Pg)).lev, (.slice ap (ilPg ks).sl.length cp), .string ((⟨0, [], ⟨#[]⟩, true, 0⟩ : Pg)).hi, .bool ((⟨0, [], ⟨#[]⟩, true, 0⟩ : Pg)).la, .int .u64 ((⟨0, [], ⟨#[]⟩, true, 0⟩ : Pg)).ri] 43) :: []) f m acc wr)) (fun v _ => 300 - (intOf v).toNat)
        case atStart => exact ⟨0, 200, acc, fd0, by omega, rfl, by decide, by omega, HS⟩
        case round =>
          clear HS
          obtain ⟨n, m, acc, f2, hnm, rfl, hpc, hacc, HS⟩ := hrel
          have q := HS.out.find HKk.out (by omega) hpc
          have Q := Lib.hid q
          have hn5 : (n : Int) < 300 := by omega
          clear q HS
          go_wp2_with fail
          refine (Q.out).mono ?_
          clear Q
          rintro e w12 ⟨acc2, hacc2, ⟨rfl, f', m', hm', hp', hS⟩ | ⟨rfl, id, pg, rd, B, va, va2, x, L, q1, q2, q3, q4, hs⟩⟩
          · have HS := Lib.hid hS
            clear hS
            go_wp2
            go_roundw
            case rel => exact ⟨n + 1, m', acc2, f', by omega, by go_num, hp', by omega, HS⟩
            case measure => simp [intOf]; omega
          · have Hq2 := Lib.hid (And.intro q1 (And.intro q2 (And.intro q3 q4)))
            clear q1 q2 q3 q4
            go_wp2
            go_meet
            exact ⟨acc2, id, pg, rd, B, va, va2, x, L, Hq2, hs⟩
      case rest =>
      clear HS hacc
      obtain ⟨acc', id, pg, rd, B, va, va2, x, L, HF, hs⟩ := hcut
      apply_assumption
      have q := findNode_st (s := (⟨2, id, pg, rd⟩ : FdS)) rfl (show pg.sl.length ≤ 1000000 by have := HF.out.2.2.1; omega) hs
      have Q := Lib.hid q
      clear q hs
      go_wp2_with fail
      refine (Q.out).mono ?_
      clear Q
      rintro e w12 ⟨va', rfl, hs⟩
      obtain ⟨a1, cap1, hv, _, _⟩ := (show St (Know.of w) w12 (rowC va' 69 2 pg.sl.length (slRow pg.sl) :: _) from hs).row_read
      subst hv
      have hs := hs.made (.cells #[.int .i64 (pg).lev, (.slice a1 pg.sl.length cap1), .string (pg).hi, .bool (pg).la, .int .u64 (pg).ri] 43)
      obtain ⟨bq, hbq⟩ : ∃ bq, bq = w12.heap.size := ⟨_, rfl⟩
      go_upto_region 38 with (fail)
      rw [← hbq] at hs ⊢
      clear hbq
      refine wp_ck hs ?_
      clear hs
      intro w13 hs
      have hs : St (Know.of w) w13 (blk bq (.cells #[.int .i64 (pg).lev, (.slice a1 pg.sl.length cap1), .string (pg).hi, .bool (pg).la, .int .u64 (pg).ri] 43) :: slC (.slice a1 pg.sl.length cap1) pg :: insC bi .nilFunc d x :: memC bm bc L acc' :: rowC (.slice (some ⟨gk, 0, none⟩) (ks).length co) 9 1 (ks).length (stRow ks) :: blk b1 (.cells #[.int .i64 (d).th, .int .i64 (d).sn, .int .i64 (d).no, .int .i64 (d).ch, .int .i64 (d).re, .int .i64 (d).fa, .int .u64 (d).cl] 29) :: blk b0 (.cells #[.int .i64 (d).th, .int .i64 (d).sn, .int .i64 (d).no, .int .i64 (d).ch, .int .i64 (d).re, .int .i64 (d).fa, .int .u64 (d).cl] 26) :: blk bp (.cells #[.int .i64 ((⟨0, [], ⟨#[]⟩, true, 0⟩ : Pg)).lev, (.slice ap (ilPg ks).sl.length cp), .string ((⟨0, [], ⟨#[]⟩, true, 0⟩ : Pg)).hi, .bool ((⟨0, [], ⟨#[]⟩, true, 0⟩ : Pg)).la, .int .u64 ((⟨0, [], ⟨#[]⟩, true, 0⟩ : Pg)).ri] 43) :: []) := (hs.re [2, 3, 0, 1, 4, 5] rfl).tail.tail
      have kp := hs.k0
      obtain ⟨gs, hgs, cz⟩ := (show St (Know.of w) w13 (rowC (.slice a1 pg.sl.length cap1) 69 2 pg.sl.length (slRow pg.sl) :: _) from hs.b1).row_at (slRow_at pg.sl _ _ HF.out.1).2
      subst hgs
      clear cz
      have hsl := (show St (Know.of w) w13 (rowC _ _ _ _ (slRow pg.sl) :: _) from hs.b1).row_slots (by have := HF.out.2.2.1; omega)
      have qf := refFind_any (cap := cap1) (key := key') w13 hsl
      rw [HF.out.2.1] at qf
      have QF := Lib.hid qf
      clear qf hsl
      go_wp2_with fail
      refine (calls_same hs QF.out).mono ?_
      clear hs kp QF
      rintro e w14 ⟨rfl, hs⟩
      have kp := hs.k0
      have cs := (show St (Know.of w) w14 (rowC _ _ _ _ (slRow pg.sl) :: _) from hs.b1).row_cell (slRow_at pg.sl _ _ HF.out.1).2
      have hlo : loK pg.sl key' < pg.sl.length := (List.getElem?_eq_some_iff.1 HF.out.1).1
      have hpl : pg.sl.length ≤ 1000 := HF.out.2.2.1
      have q := insErr_b hs.b2
      rw [HF.out.2.2.2] at q
      have Q := Lib.hid q
      have Hs := Lib.hid hs
      clear q hs
      go_wp2_with fail
      refine (Q.out).mono ?_
      clear Q
      rintro e w15 ⟨rfl, rfl⟩
      go_wp2
      go_ret
      exact ⟨rfl, Hs.out.below (Know.Le.refl _)⟩
end Go.Proofs.YtlpdhhhgckpcfaaGreat
