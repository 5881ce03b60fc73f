
/- The walk of LeaflockMovesRight. -/
import Derived.Test.YtlpdhhhgckpcfaaGreatMv
import Derived.Test.YtlpdhhhgckpcfaaGreatAw12
import Derived.Test.YtlpdhhhgckpcfaaGreatAppF
import Derived.Test.YtlpdhhhgckpcfaaGreatSameV
namespace Go.Proofs.YtlpdhhhgckpcfaaGreat
open Go.RowKit
set_option maxRecDepth 100000
theorem MvG.newRel {K : Know} {w : World} {F : List Comp} {bm bc bx bf bw stage pp acc : Nat} {d : Cfg} {ks : List ByteArray} {key : ByteArray} {dn : Bool} {i word : Int} (h : MvG K bm bc bx bf bw d ks key stage dn pp acc F w) :
    Calls Tryz.prog 20 #[.int .i64 i, .int .u64 word] w fun e w' => ∃ r bi bw', e = .returned (.pointer (some ⟨r, 0, none⟩)) ∧ MvG K bm bc bx bf bw d ks key stage dn pp acc (relL r bi bw' i word 0 ++ F) w' := by
  obtain ⟨L, s, x, m, C, b1, g1, c1, va1, psF, kF, b2, g2, c2, a2, cv2, psW, kW, h1, h2, h3, h4, h5, hs⟩ := h
  refine (newRelease_st hs).mono ?_
  rintro e w' ⟨r, bi, bw', rfl, hs'⟩
  refine ⟨r, bi, bw', rfl, L, s, x, m, C, b1, g1, c1, va1, psF, kF, b2, g2, c2, a2, cv2, psW, kW, h1, h2, h3, h4, h5, ?_⟩
  exact (show St K w' (_ :: _ :: _ :: _ :: _ :: _ :: _ :: _ :: _ :: _ :: _ :: _ :: F) from hs').re [3, 4, 5, 6, 7, 8, 9, 10, 11, 0, 1, 2] rfl
set_option maxHeartbeats 16000000 in
theorem leaflockMovesRight_walk (a : Option Addr) (len cap : Nat) (f : Nat → ByteArray) (fanout : Int) (key : ByteArray) (at' : Int) (qa : Option Addr) (lp qcap : Nat) (P : Nat → Int) (hkey : key.size ≤ maxLen) (w : World) (hz : StrsIn w a len f) (hq : RowIn .u8 w qa lp P) :
    Calls Tryz.prog 5 #[.slice a len cap, .int .i64 fanout, .string key, .int .i64 at', .slice qa lp qcap] w fun e w' => e = .returned (.bool true) ∧ Below w.heap.size w w' := by
  obtain ⟨d, hd, hfa, hno, hch, Q1, Q2⟩ : ∃ d : Cfg, Hid d.Ok ∧ Hid (d.fa = 4 + fanout % 3) ∧ Hid (d.no = 100) ∧ Hid (d.ch = 100) ∧ Hid (∀ w, Calls Tryz.prog 12 #[.int .i64 1, .int .i64 fanout] w fun e w' => e = .returned (.agg #[.int .i64 d.th, .int .i64 d.sn, .int .i64 d.no, .int .i64 d.ch, .int .i64 d.re, .int .i64 d.fa, .int .u64 d.cl]) ∧ Below w.heap.size w w') ∧ Hid (∀ w K cs, St K w cs → Calls Tryz.prog 13 #[.agg #[.int .i64 d.th, .int .i64 d.sn, .int .i64 d.no, .int .i64 d.ch, .int .i64 d.re, .int .i64 d.fa, .int .u64 d.cl]] w fun e w'' => ∃ bm bc, e = .returned (.tuple #[.agg #[.int .i64 d.th, .int .i64 d.sn, .int .i64 d.no, .int .i64 d.ch, .int .i64 d.re, .int .i64 d.fa, .int .u64 d.cl], (.pointer (some ⟨bm, 0, none⟩))]) ∧ St K w'' (memC bm bc (startL d) 0 :: cs)) :=
    ⟨kitC 1 (4 + fanout % 3) 1000, Lib.hid (kit8_ok fanout), Lib.hid rfl, Lib.hid rfl, Lib.hid rfl, Lib.hid (fun w => kitConfig_any 1 fanout w), Lib.hid (fun w K cs hs => kitMemory_st (kit8_ok fanout) hs)⟩
  have Hz := Lib.hid hz
  have Hq := Lib.hid hq
  have hlp := hq.1
  simp only [maxLen] at hlp hkey
  obtain ⟨fan, hfan⟩ : ∃ fan : Nat, d.fa = fan ∧ 4 ≤ fan ∧ fan ≤ 6 := ⟨d.fa.toNat, by have := hfa.out; omega, by have := hfa.out; omega, by have := hfa.out; omega⟩
  have Hfan := Lib.hid hfan
  clear hz hq hfan
  have QA := Lib.hid (fun (W : World) (cs : List Comp) (h : St (Know.of w) W cs) => awake12_st h)
  have hs := St.start w
  go_enter Tryz.func5, Tryz.ntmps5
  go_wp2_with fail
  refine (calls_same hs (Q1.out _)).mono ?_
  clear hs
  rintro e w1 ⟨rfl, hs⟩
  have hs := hs.made (.cells #[.int .i64 (d).th, .int .i64 (d).sn, .int .i64 (d).no, .int .i64 (d).ch, .int .i64 (d).re, .int .i64 (d).fa, .int .u64 (d).cl] 26)
  obtain ⟨b0, hb0⟩ : ∃ b, b = w1.heap.size := ⟨_, rfl⟩
  have kc := hs.k0
  go_wp2_with fail
  rw [← hb0] at hs kc ⊢
  clear hb0
  refine (Q2.out _ _ _ hs).mono ?_
  clear hs kc
  rintro e w2 ⟨bm, bc, rfl, hs⟩
  have hs := hs.made (.cells #[.int .i64 (d).th, .int .i64 (d).sn, .int .i64 (d).no, .int .i64 (d).ch, .int .i64 (d).re, .int .i64 (d).fa, .int .u64 (d).cl] 29)
  obtain ⟨b1, hb1⟩ : ∃ b, b = w2.heap.size := ⟨_, rfl⟩
  rw [← hb1] at hs
  have kc := hs.b2.k0
  have hfe := Hfan.out.1
  have qk := keys_st (a := a) (len := len) (cap := cap) (f := f) (most := fan) Hz.out (by have := Hfan.out; omega) hs
  rw [← hfe] at qk
  have QK := Lib.hid qk
  clear qk hfe
  go_wp2_with fail
  rw [← hb1]
  clear hb1
  refine (QK.out).mono ?_
  clear hs QK kc
  rintro e w3 ⟨v, ks, rfl, HK, hs⟩
  obtain ⟨ao, co, rfl, _, _⟩ := hs.row_read
  have hs : St (Know.of w) w3 (rowC (.slice ao (ks).length co) 9 1 (ks).length (stRow ks) :: memC bm bc (startL d) 0 :: blk b1 (.cells #[.int .i64 (d).th, .int .i64 (d).sn, .int .i64 (d).no, .int .i64 (d).ch, .int .i64 (d).re, .int .i64 (d).fa, .int .u64 (d).cl] 29) :: blk b0 (.cells #[.int .i64 (d).th, .int .i64 (d).sn, .int .i64 (d).no, .int .i64 (d).ch, .int .i64 (d).re, .int .i64 (d).fa, .int .u64 (d).cl] 26) :: []) := hs.re [0, 2, 1] rfl
  go_upto_region 4 with (fail)
  go_cut [62] from 42 to 63 (fun v wx => ∃ b : Bool, v = .bool b ∧ Hid (b = false → 2 ≤ ks.length ∧ lp ≤ 100) ∧ St (Know.of w) wx (rowC (.slice ao (ks).length co) 9 1 (ks).length (stRow ks) :: memC bm bc (startL d) 0 :: blk b1 (.cells #[.int .i64 (d).th, .int .i64 (d).sn, .int .i64 (d).no, .int .i64 (d).ch, .int .i64 (d).re, .int .i64 (d).fa, .int .u64 (d).cl] 29) :: blk b0 (.cells #[.int .i64 (d).th, .int .i64 (d).sn, .int .i64 (d).no, .int .i64 (d).ch, .int .i64 (d).re, .int .i64 (d).fa, .int .u64 (d).cl] 26) :: []))
  case first =>
    go_wp2_with fail
    refine (QA.out _ _ hs).mono ?_
    clear hs
    rintro e w4 ⟨rfl, hs⟩
    by_cases h2 : (ks.length : Int) < 2
    · go_wp2
      go_meet
      exact ⟨true, rfl, Lib.hid (fun h => by cases h), hs⟩
    · by_cases h3 : (100 : Int) < (lp : Int)
      · go_wp2
        go_meet
        exact ⟨true, rfl, Lib.hid (fun h => by cases h), hs⟩
      · have H2 : Hid (2 ≤ ks.length ∧ lp ≤ 100) := Lib.hid (by omega)
        go_wp2
        go_meet
        exact ⟨_, rfl, Lib.hid (fun _ => H2.out), hs⟩
  case rest =>
  clear hs
  obtain ⟨bad, rfl, Hbad, hs⟩ := hcut
  apply_assumption
  cases bad with
  | true =>
    go_wp2_with fail
    refine (QA.out _ _ hs).mono ?_
    clear hs
    rintro e w4 ⟨rfl, hs⟩
    go_wp2
    go_ret
    exact ⟨rfl, hs.below (Know.Le.refl _)⟩
  | false =>
  obtain ⟨h2, hlp2⟩ := Hbad.out rfl
  have H2 := Lib.hid h2
  have Hlp2 := Lib.hid hlp2
  clear Hbad hlp h2 hkey QA
  go_upto_region 6 with (fail)
  go_cut [70] from 68 to 71 (fun v wx => ∃ b : Bool, v = .bool b ∧ St (Know.of w) wx (rowC (.slice ao (ks).length co) 9 1 (ks).length (stRow ks) :: memC bm bc (startL d) 0 :: blk b1 (.cells #[.int .i64 (d).th, .int .i64 (d).sn, .int .i64 (d).no, .int .i64 (d).ch, .int .i64 (d).re, .int .i64 (d).fa, .int .u64 (d).cl] 29) :: blk b0 (.cells #[.int .i64 (d).th, .int .i64 (d).sn, .int .i64 (d).no, .int .i64 (d).ch, .int .i64 (d).re, .int .i64 (d).fa, .int .u64 (d).cl] 26) :: []))
  case first =>
    as_aux_lemma =>
    go_wp2
    go_meet
    exact ⟨_, rfl, hs⟩
  case rest =>
  clear hs
  obtain ⟨b3, rfl, hs⟩ := hcut
  apply_assumption
  go_cut [2] from 71 to 78 (fun v wx => ∃ key' : ByteArray, v = .string key' ∧ St (Know.of w) wx (rowC (.slice ao (ks).length co) 9 1 (ks).length (stRow ks) :: memC bm bc (startL d) 0 :: blk b1 (.cells #[.int .i64 (d).th, .int .i64 (d).sn, .int .i64 (d).no, .int .i64 (d).ch, .int .i64 (d).re, .int .i64 (d).fa, .int .u64 (d).cl] 29) :: blk b0 (.cells #[.int .i64 (d).th, .int .i64 (d).sn, .int .i64 (d).no, .int .i64 (d).ch, .int .i64 (d).re, .int .i64 (d).fa, .int .u64 (d).cl] 26) :: []))
  case first =>
    as_aux_lemma =>
    cases b3 with
    | false =>
      go_wp2
      go_meet
      exact ⟨_, rfl, hs⟩
    | true =>
      have h2 := H2.out
      have hk6 : ks.length ≤ 6 := by have h1 := HK.out.len; have h2 := Hfan.out; omega
      obtain ⟨i, hi, hi2⟩ : ∃ i : Nat, at' % (ks.length : Int) = i ∧ i < ks.length := ⟨(at' % (ks.length : Int)).toNat, by have := Int.emod_nonneg at' (show (ks.length : Int) ≠ 0 by omega); omega, by have := Int.emod_lt_of_pos at' (show (0 : Int) < ks.length by omega); omega⟩
      have q := fun w => mod_any at' ks.length (by omega) (by omega) w
      rw [hi] at q
      have Q := Lib.hid q
      obtain ⟨g, rfl, hc⟩ := (show St (Know.of w) _ (rowC (.slice ao ks.length co) 9 1 ks.length (stRow ks) :: _) from hs).row_at (show (stRow ks)[i]? = some (.string ks[i]) by simp [stRow, hi2])
      clear q hi
      go_wp2_with fail
      refine (Q.out _).mono ?_
      rintro e w3 ⟨rfl, rfl⟩
      go_wp2
      go_meet
      exact ⟨_, rfl, hs⟩
  case rest =>
  clear hs
  obtain ⟨key', rfl, hs⟩ := hcut
  apply_assumption
  have hs := hs.row_nil (T := 69) (size := 2)
  have hs : St (Know.of w) _ (rowC (.slice none 0 0) 69 2 0 [] :: rowC (.slice ao (ks).length co) 9 1 (ks).length (stRow ks) :: memC bm bc (startL d) 0 :: blk b1 (.cells #[.int .i64 (d).th, .int .i64 (d).sn, .int .i64 (d).no, .int .i64 (d).ch, .int .i64 (d).re, .int .i64 (d).fa, .int .u64 (d).cl] 29) :: blk b0 (.cells #[.int .i64 (d).th, .int .i64 (d).sn, .int .i64 (d).no, .int .i64 (d).ch, .int .i64 (d).re, .int .i64 (d).fa, .int .u64 (d).cl] 26) :: []) := hs
  go_wp2
  go_loopw [15, 16] (fun v15 v16 wr => ∃ (i : Nat) (ap : Option Addr) (cp : Nat), v15 = .slice ap i cp ∧ v16 = .int .i64 i ∧ i ≤ ks.length ∧ St (Know.of w) wr (rowC (.slice ap i cp) 69 2 i (slRow (keySl 0 (ks.take i))) :: rowC (.slice ao (ks).length co) 9 1 (ks).length (stRow ks) :: memC bm bc (startL d) 0 :: blk b1 (.cells #[.int .i64 (d).th, .int .i64 (d).sn, .int .i64 (d).no, .int .i64 (d).ch, .int .i64 (d).re, .int .i64 (d).fa, .int .u64 (d).cl] 29) :: blk b0 (.cells #[.int .i64 (d).th, .int .i64 (d).sn, .int .i64 (d).no, .int .i64 (d).ch, .int .i64 (d).re, .int .i64 (d).fa, .int .u64 (d).cl] 26) :: [])) (fun _ v _ => ks.length - (intOf v).toNat)
  case atStart => exact ⟨0, none, 0, rfl, rfl, by omega, hs⟩
  case round =>
    clear hs
    obtain ⟨i, ap, cp, rfl, rfl, hi, hs⟩ := hrel
    have hk6 : ks.length ≤ 6 := by have h1 := HK.out.len; have h2 := Hfan.out; omega
    by_cases hin : i < ks.length
    · -- <SL
      obtain ⟨ki, hki⟩ : ∃ ki, ks[i]? = some ki := ⟨_, List.getElem?_eq_getElem hin⟩
      have hrow : (stRow ks)[i]? = some (.string ki) := by simp [stRow, hki]
      obtain ⟨g5, rfl, c0⟩ := (show St (Know.of w) wr (rowC (.slice ao ks.length co) 9 1 ks.length (stRow ks) :: _) from hs.b1).row_at hrow
      have Hki := Lib.hid hki
      clear hrow hki
      have hw1 : wrap64 ((i : Int) + 1) = (i : Int) + 1 := wrap64_idn (by omega) (by omega)
      have hw2 : IntKind.u64.wrap ((i : Int) + 1) = (i : Int) + 1 := by rw [IntKind.wrap_u64]; omega
      have Htk : Hid (slRow (keySl 0 (ks.take (i + 1))) = slRow (keySl 0 (ks.take i)) ++ [.string ki, .int .u64 ((i : Int) + 1)]) := Lib.hid (by
        rw [List.take_add_one, Hki.out]
        show slRow (keySl 0 (ks.take i ++ [ki])) = _
        rw [keySl_push]
        unfold slRow
        rw [List.flatMap_append]
        congr 1
        show [Value.string ki, .int .u64 _] = _
        rw [List.length_take, Nat.min_eq_left (by omega)]
        congr 3
        show ((0 + i + 1 : Nat) : Int) = (i : Int) + 1
        omega)
      obtain ⟨iv, hiv0, hiv1, hiv2, hiv3⟩ := info_parts infoSlot
      have Hi0 := Lib.hid hiv0
      have Hi1 := Lib.hid hiv1
      have Hi2 := Lib.hid hiv2
      have Hi3 := Lib.hid hiv3
      clear hiv0 hiv1 hiv2 hiv3
      have hs := hs.made (.cells [.string ki, .int .u64 ((i : Int) + 1)].toArray 69)
      have hkk := hs.k0
      have Hw := Lib.hid (lit_cells hkk)
      have Hr := Lib.hid hs.b1
      clear hs hkk
      go_wp2_with (at_builtin; refine append_row_st _ _ 41 69 _ i 1 1 2 24 _ [.string ki, .int .u64 ((i : Int) + 1)] (.agg #[.string ⟨#[]⟩, .int .u64 0]) iv (some ⟨wr.heap.size, 0, none⟩) Hr.out rfl rfl Tryz.underlying41 Hi0.out Hi1.out Hi2.out Hi3.out rfl (by decide) rfl rfl rfl (fun e => by cases e) Hw.out (fun u hu => by simp at hu; rcases hu with rfl | rfl <;> rfl) (by omega) (by decide) ?_)
      clear Hr Hw c0
      intro v' w6 hs
      rw [← Htk.out] at hs
      obtain ⟨a1, c1, hv, _, _⟩ := hs.row_read
      subst hv
      go_wp2
      go_roundw
      case rel => exact ⟨i + 1, a1, c1, rfl, by go_num, by omega, hs.drop1⟩
      case measure => simp [intOf]; omega
      -- SL>
    · obtain rfl : i = ks.length := by omega
      clear hin hi
      have hsl : (ilPg ks).sl.length = ks.length := keySl_length ks 0
      have htk : ks.take ks.length = ks := List.take_length
      have hKk : Hid (MvK d ks) := Lib.hid ⟨hd.out, by rw [hno.out]; decide, by have := Hfan.out; omega, HK.out.asc, by have h1 := HK.out.len; have h2 := Hfan.out; omega, H2.out, HK.out.size⟩
      rw [htk] at hs
      obtain ⟨n, hn⟩ : ∃ n, n = (ilPg ks).sl.length := ⟨_, rfl⟩
      have hs : St (Know.of w) wr (memC bm bc (startL d) 0 :: rowC (.slice ap n cp) 69 2 n (slRow (ilPg ks).sl) :: blk b1 (.cells #[.int .i64 (d).th, .int .i64 (d).sn, .int .i64 (d).no, .int .i64 (d).ch, .int .i64 (d).re, .int .i64 (d).fa, .int .u64 (d).cl] 29) :: blk b0 (.cells #[.int .i64 (d).th, .int .i64 (d).sn, .int .i64 (d).no, .int .i64 (d).ch, .int .i64 (d).re, .int .i64 (d).fa, .int .u64 (d).cl] 26) :: []) := by
        rw [hn, hsl]
        exact (hs.re [2, 0, 3, 4, 1] rfl).sub (.cons_cons _ (.cons_cons _ (.cons_cons _ (.cons_cons _ (.cons _ (List.Sublist.refl _))))))
      have hnn : ks.length = n := by rw [hn, hsl]
      rw [hnn]
      have Hn := Lib.hid hn
      have Hnn : Hid (n ≤ 6 ∧ 2 ≤ n) := Lib.hid (by have := H2.out; omega)
      clear htk hsl hn hnn hk6
      obtain ⟨bp, hbp⟩ : ∃ b, b = wr.heap.size := ⟨_, rfl⟩
      have hs := hs.made (.cells #[.int .i64 ((⟨0, [], ⟨#[]⟩, true, 0⟩ : Pg)).lev, (.slice ap n cp), .string ((⟨0, [], ⟨#[]⟩, true, 0⟩ : Pg)).hi, .bool ((⟨0, [], ⟨#[]⟩, true, 0⟩ : Pg)).la, .int .u64 ((⟨0, [], ⟨#[]⟩, true, 0⟩ : Pg)).ri] 43)
      rw [← hbp] at hs
      go_upto_region 14 with (fail)
      rw [← hbp]
      clear hbp
      refine wp_ck hs ?_
      clear hs
      intro w3 hs
      have hs : St (Know.of w) w3 (blk bp (.cells #[.int .i64 ((⟨0, [], ⟨#[]⟩, true, 0⟩ : Pg)).lev, (.slice ap n cp), .string ((⟨0, [], ⟨#[]⟩, true, 0⟩ : Pg)).hi, .bool ((⟨0, [], ⟨#[]⟩, true, 0⟩ : Pg)).la, .int .u64 ((⟨0, [], ⟨#[]⟩, true, 0⟩ : Pg)).ri] 43) :: memC bm bc (startL d) 0 :: rowC (.slice ap n cp) 69 2 n (slRow (ilPg ks).sl) :: blk b1 (.cells #[.int .i64 (d).th, .int .i64 (d).sn, .int .i64 (d).no, .int .i64 (d).ch, .int .i64 (d).re, .int .i64 (d).fa, .int .u64 (d).cl] 29) :: blk b0 (.cells #[.int .i64 (d).th, .int .i64 (d).sn, .int .i64 (d).no, .int .i64 (d).ch, .int .i64 (d).re, .int .i64 (d).fa, .int .u64 (d).cl] 26) :: []) := hs
      have hs : St (Know.of w) w3 (memC bm bc (startL d) 0 :: rowC (.slice ap n cp) 69 2 n (slRow (ilPg ks).sl) :: blk bp (.cells #[.int .i64 ((⟨0, [], ⟨#[]⟩, true, 0⟩ : Pg)).lev, (.slice ap n cp), .string ((⟨0, [], ⟨#[]⟩, true, 0⟩ : Pg)).hi, .bool ((⟨0, [], ⟨#[]⟩, true, 0⟩ : Pg)).la, .int .u64 ((⟨0, [], ⟨#[]⟩, true, 0⟩ : Pg)).ri] 43) :: blk b1 (.cells #[.int .i64 (d).th, .int .i64 (d).sn, .int .i64 (d).no, .int .i64 (d).ch, .int .i64 (d).re, .int .i64 (d).fa, .int .u64 (d).cl] 29) :: blk b0 (.cells #[.int .i64 (d).th, .int .i64 (d).sn, .int .i64 (d).no, .int .i64 (d).ch, .int .i64 (d).re, .int .i64 (d).fa, .int .u64 (d).cl] 26) :: []) := hs.re [1, 2, 0] rfl
      have kp := hs.b2.k0
      have kc := hs.b4.k0
      have q := kitPut_st (a := ap) (cap := cp) (F := blk bp (.cells #[.int .i64 ((⟨0, [], ⟨#[]⟩, true, 0⟩ : Pg)).lev, (.slice ap n cp), .string ((⟨0, [], ⟨#[]⟩, true, 0⟩ : Pg)).hi, .bool ((⟨0, [], ⟨#[]⟩, true, 0⟩ : Pg)).la, .int .u64 ((⟨0, [], ⟨#[]⟩, true, 0⟩ : Pg)).ri] 43) :: blk b1 (.cells #[.int .i64 (d).th, .int .i64 (d).sn, .int .i64 (d).no, .int .i64 (d).ch, .int .i64 (d).re, .int .i64 (d).fa, .int .u64 (d).cl] 29) :: blk b0 (.cells #[.int .i64 (d).th, .int .i64 (d).sn, .int .i64 (d).no, .int .i64 (d).ch, .int .i64 (d).re, .int .i64 (d).fa, .int .u64 (d).cl] 26) :: []) (pg := ilPg ks) (id := 1) hd.out (by omega) ⟨by show (0 : Int) ≤ 0; decide, by show (0 : Int) < 1000000; decide⟩ hKk.out.pg.le (w := w3) (K := Know.of w) (bm := bm) (bc := bc) (L := startL d) (acc := 0) (by rw [← Hn.out]; exact hs)
      rw [← Hn.out] at q
      have Q := Lib.hid q
      clear q hs
      go_wp2_with fail
      refine (Q.out).mono ?_
      clear Q kp kc
      rintro e w4 ⟨rfl, hs⟩
      have hs : St (Know.of w) w4 (memC bm bc (putPg d 1 (ilPg ks) (startL d)) 0 :: rowC (.slice ap n cp) 69 2 n (slRow (ilPg ks).sl) :: blk bp (.cells #[.int .i64 ((⟨0, [], ⟨#[]⟩, true, 0⟩ : Pg)).lev, (.slice ap n cp), .string ((⟨0, [], ⟨#[]⟩, true, 0⟩ : Pg)).hi, .bool ((⟨0, [], ⟨#[]⟩, true, 0⟩ : Pg)).la, .int .u64 ((⟨0, [], ⟨#[]⟩, true, 0⟩ : Pg)).ri] 43) :: blk b1 (.cells #[.int .i64 (d).th, .int .i64 (d).sn, .int .i64 (d).no, .int .i64 (d).ch, .int .i64 (d).re, .int .i64 (d).fa, .int .u64 (d).cl] 29) :: blk b0 (.cells #[.int .i64 (d).th, .int .i64 (d).sn, .int .i64 (d).no, .int .i64 (d).ch, .int .i64 (d).re, .int .i64 (d).fa, .int .u64 (d).cl] 26) :: []) := hs
      have kc := hs.b4.k0
      have f1 := hd.out.fa1
      have n1 := hd.out.no1
      have QN := Lib.hid (fun (i : Int) (hi : 1 ≤ i ∧ i ≤ 2) W => refNode_any d hd.out i 0 (by omega) (by omega) (by decide) (by omega) W)
      have QL := Lib.hid (fun W => ltLock_any 0 (by decide) (by decide) W)
      clear f1 n1
      go_wp2_with fail
      refine (calls_same hs (QN.out 1 (by decide) _)).mono ?_
      clear hs kc
      rintro e w5 ⟨rfl, hs⟩
      go_wp2_with fail
      refine (QL.out _).mono ?_
      rintro e w6 ⟨rfl, rfl⟩
      go_wp2_with fail
      refine (poke_st (i := d.node 1 0) (c := ⟨ltLock 0, ⟨#[]⟩, 0⟩) hs).mono ?_
      clear hs
      rintro e w6 ⟨rfl, hs⟩
      go_wp2_with fail
      refine (poke_st (i := 4) (c := ⟨2, ⟨#[]⟩, 0⟩) hs).mono ?_
      clear hs
      rintro e w7 ⟨rfl, hs⟩
      have hs : St (Know.of w) w7 (memC bm bc (mvMem d ks) 0 :: rowC (.slice ap n cp) 69 2 n (slRow (ilPg ks).sl) :: blk bp (.cells #[.int .i64 ((⟨0, [], ⟨#[]⟩, true, 0⟩ : Pg)).lev, (.slice ap n cp), .string ((⟨0, [], ⟨#[]⟩, true, 0⟩ : Pg)).hi, .bool ((⟨0, [], ⟨#[]⟩, true, 0⟩ : Pg)).la, .int .u64 ((⟨0, [], ⟨#[]⟩, true, 0⟩ : Pg)).ri] 43) :: blk b1 (.cells #[.int .i64 (d).th, .int .i64 (d).sn, .int .i64 (d).no, .int .i64 (d).ch, .int .i64 (d).re, .int .i64 (d).fa, .int .u64 (d).cl] 29) :: blk b0 (.cells #[.int .i64 (d).th, .int .i64 (d).sn, .int .i64 (d).no, .int .i64 (d).ch, .int .i64 (d).re, .int .i64 (d).fa, .int .u64 (d).cl] 26) :: []) := hs
      obtain ⟨ga, hga, hcw⟩ : ∃ ga, ap = some ⟨ga, 0, none⟩ ∧ n ≤ cp := by
        obtain ⟨a, c, he, hc, hg⟩ := hs.b1.row_read
        injection he with e1 e2 e3
        obtain ⟨g, cur, e, _⟩ := hg (by have := Hnn.out; omega)
        exact ⟨g, by rw [e1, e], by omega⟩
      subst hga
      have kp := hs.b2.k0
      obtain ⟨kl, hkl⟩ : ∃ kl, kl = (splL (ilPg ks) 2).sl.length := ⟨_, rfl⟩
      obtain ⟨kr, hkr⟩ : ∃ kr, kr = (splR (ilPg ks)).sl.length := ⟨_, rfl⟩
      have q := refSplit_st (pg := ilPg ks) (r := 2) (g := ga) (cap := cp) (K := Know.of w) (w := w7) (F := memC bm bc (mvMem d ks) 0 :: blk bp (.cells #[.int .i64 ((⟨0, [], ⟨#[]⟩, true, 0⟩ : Pg)).lev, (.slice (some ⟨ga, 0, none⟩) (ilPg ks).sl.length cp), .string ((⟨0, [], ⟨#[]⟩, true, 0⟩ : Pg)).hi, .bool ((⟨0, [], ⟨#[]⟩, true, 0⟩ : Pg)).la, .int .u64 ((⟨0, [], ⟨#[]⟩, true, 0⟩ : Pg)).ri] 43) :: blk b1 (.cells #[.int .i64 (d).th, .int .i64 (d).sn, .int .i64 (d).no, .int .i64 (d).ch, .int .i64 (d).re, .int .i64 (d).fa, .int .u64 (d).cl] 29) :: blk b0 (.cells #[.int .i64 (d).th, .int .i64 (d).sn, .int .i64 (d).no, .int .i64 (d).ch, .int .i64 (d).re, .int .i64 (d).fa, .int .u64 (d).cl] 26) :: []) (by rw [← Hn.out]; exact hcw) (by rw [← Hn.out]; exact Hnn.out.2) (by rw [← Hn.out]; have := Hnn.out; omega) hKk.out.k.fok.k (by have h := hs.b1; rw [Hn.out] at h; exact h)
      rw [← Hn.out, ← hkl, ← hkr] at q
      have Q := Lib.hid q
      clear q hs
      go_wp2_with fail
      refine (Q.out).mono ?_
      clear Q kp
      rintro e w8 ⟨rfl, hs⟩
      rw [Hn.out] at hs
      have hs : St (Know.of w) w8 (rowC (.slice (some ⟨ga, 0, none⟩) (ilPg ks).sl.length cp) 69 2 (ilPg ks).sl.length (slRow (ilPg ks).sl) :: memC bm bc (mvMem d ks) 0 :: blk bp (.cells #[.int .i64 ((⟨0, [], ⟨#[]⟩, true, 0⟩ : Pg)).lev, (.slice (some ⟨ga, 0, none⟩) (ilPg ks).sl.length cp), .string ((⟨0, [], ⟨#[]⟩, true, 0⟩ : Pg)).hi, .bool ((⟨0, [], ⟨#[]⟩, true, 0⟩ : Pg)).la, .int .u64 ((⟨0, [], ⟨#[]⟩, true, 0⟩ : Pg)).ri] 43) :: blk b1 (.cells #[.int .i64 (d).th, .int .i64 (d).sn, .int .i64 (d).no, .int .i64 (d).ch, .int .i64 (d).re, .int .i64 (d).fa, .int .u64 (d).cl] 29) :: blk b0 (.cells #[.int .i64 (d).th, .int .i64 (d).sn, .int .i64 (d).no, .int .i64 (d).ch, .int .i64 (d).re, .int .i64 (d).fa, .int .u64 (d).cl] 26) :: []) := hs
      obtain ⟨K2, hle, hs, hfz⟩ := hs.row_frz (by rw [← Hn.out]; have := Hnn.out; omega) (by rw [← Hn.out]; have := Hnn.out; omega)
      rw [← Hn.out] at hs
      have Hle := Lib.hid hle
      have Hfz := Lib.hid hfz
      have Hkl := Lib.hid hkl
      have Hkr := Lib.hid hkr
      clear hle hfz hkl hkr hcw
      have hs := (hs.made (.cells #[.int .i64 ((splL (ilPg ks) 2)).lev, (.slice (some ⟨ga, 0, none⟩) kl kl), .string ((splL (ilPg ks) 2)).hi, .bool ((splL (ilPg ks) 2)).la, .int .u64 ((splL (ilPg ks) 2)).ri] 43)).made (.cells #[.int .i64 ((splR (ilPg ks))).lev, (.slice (some ⟨ga, kl * 2, none⟩) kr (cp - kl)), .string ((splR (ilPg ks))).hi, .bool ((splR (ilPg ks))).la, .int .u64 ((splR (ilPg ks))).ri] 43)
      obtain ⟨b18, hb18⟩ : ∃ b, b = w8.heap.size := ⟨_, rfl⟩
      rw [World.size_alloc, ← hb18] at hs
      go_upto_region 18 with (fail)
      rw [← hb18]
      clear hb18
      refine wp_ck hs ?_
      clear hs
      intro w9 hs
      have hs : St K2 w9 (memC bm bc (mvMem d ks) 0 :: blk (b18 + 1) (.cells #[.int .i64 ((splR (ilPg ks))).lev, (.slice (some ⟨ga, kl * 2, none⟩) kr (cp - kl)), .string ((splR (ilPg ks))).hi, .bool ((splR (ilPg ks))).la, .int .u64 ((splR (ilPg ks))).ri] 43) :: blk b18 (.cells #[.int .i64 ((splL (ilPg ks) 2)).lev, (.slice (some ⟨ga, 0, none⟩) kl kl), .string ((splL (ilPg ks) 2)).hi, .bool ((splL (ilPg ks) 2)).la, .int .u64 ((splL (ilPg ks) 2)).ri] 43) :: blk bp (.cells #[.int .i64 ((⟨0, [], ⟨#[]⟩, true, 0⟩ : Pg)).lev, (.slice (some ⟨ga, 0, none⟩) n cp), .string ((⟨0, [], ⟨#[]⟩, true, 0⟩ : Pg)).hi, .bool ((⟨0, [], ⟨#[]⟩, true, 0⟩ : Pg)).la, .int .u64 ((⟨0, [], ⟨#[]⟩, true, 0⟩ : Pg)).ri] 43) :: blk b1 (.cells #[.int .i64 (d).th, .int .i64 (d).sn, .int .i64 (d).no, .int .i64 (d).ch, .int .i64 (d).re, .int .i64 (d).fa, .int .u64 (d).cl] 29) :: blk b0 (.cells #[.int .i64 (d).th, .int .i64 (d).sn, .int .i64 (d).no, .int .i64 (d).ch, .int .i64 (d).re, .int .i64 (d).fa, .int .u64 (d).cl] 26) :: []) := hs.re [2, 0, 1, 3, 4, 5] rfl
      have kl1 := hs.b4.k0
      have q := newLock_st (d := d) (key := key') (level := ((0 : Nat) : Int)) hs
      have Q := Lib.hid q
      clear q hs
      go_wp2_with fail
      refine (Q.out).mono ?_
      clear Q kl1
      rintro e w10 ⟨bx, C, rfl, hr, hs⟩
      have Hr := Lib.hid hr
      have hs := St.group_nil.2 (St.group_iff.2 hs)
      clear hr
      have hdr : (splR (ilPg ks)).sl = (ilPg ks).sl.drop kl := by
        rw [Hkl.out]
        show (ilPg ks).sl.drop _ = (ilPg ks).sl.drop ((ilPg ks).sl.take _).length
        rw [List.length_take, Nat.min_eq_left (by unfold splK; omega)]
      have hX : Rdb K2 (group []) (some ⟨ga, kl * 2, none⟩) (splR (ilPg ks)).sl := fun W cs h => by
        rw [hdr]
        exact slAt_drop (Hfz.out W _ h) kl
      have hY : Rdb K2 (group []) (some ⟨ga, 0, none⟩) (splL (ilPg ks) 2).sl := fun W cs h => slAt_take (Hfz.out W _ h) _
      have hZ : Rdb K2 (group []) (some ⟨ga, 0, none⟩) (ilPg ks).sl := fun W cs h => Hfz.out W _ h
      have HY := Lib.hid hY
      have HZ := Lib.hid hZ
      have hs : St K2 w10 (group [] :: group C :: memC bm bc (mvMem d ks) 0 :: blk (b18 + 1) (.cells #[.int .i64 ((splR (ilPg ks))).lev, (.slice (some ⟨ga, kl * 2, none⟩) kr (cp - kl)), .string ((splR (ilPg ks))).hi, .bool ((splR (ilPg ks))).la, .int .u64 ((splR (ilPg ks))).ri] 43) :: blk b18 (.cells #[.int .i64 ((splL (ilPg ks) 2)).lev, (.slice (some ⟨ga, 0, none⟩) kl kl), .string ((splL (ilPg ks) 2)).hi, .bool ((splL (ilPg ks) 2)).la, .int .u64 ((splL (ilPg ks) 2)).ri] 43) :: blk bp (.cells #[.int .i64 ((⟨0, [], ⟨#[]⟩, true, 0⟩ : Pg)).lev, (.slice (some ⟨ga, 0, none⟩) n cp), .string ((⟨0, [], ⟨#[]⟩, true, 0⟩ : Pg)).hi, .bool ((⟨0, [], ⟨#[]⟩, true, 0⟩ : Pg)).la, .int .u64 ((⟨0, [], ⟨#[]⟩, true, 0⟩ : Pg)).ri] 43) :: blk b1 (.cells #[.int .i64 (d).th, .int .i64 (d).sn, .int .i64 (d).no, .int .i64 (d).ch, .int .i64 (d).re, .int .i64 (d).fa, .int .u64 (d).cl] 29) :: blk b0 (.cells #[.int .i64 (d).th, .int .i64 (d).sn, .int .i64 (d).no, .int .i64 (d).ch, .int .i64 (d).re, .int .i64 (d).fa, .int .u64 (d).cl] 26) :: []) := hs
      have kl1 := hs.b6.k0
      have kr1 := hs.b3.k0
      have q := newFreshG_st (x := splR (ilPg ks)) (id := 2) (cx := cp - kl) hX hd.out (by decide) ⟨by show (0 : Int) ≤ 0; decide, by show (0 : Int) < 1000000; decide⟩ (hKk.out.k.fok.right hd.out).le hs
      rw [← Hkr.out] at q
      have Q := Lib.hid q
      clear q hs hX hY hZ hdr
      go_wp2_with fail
      refine (Q.out).mono ?_
      clear Q kl1 kr1
      rintro e w11 ⟨bf, bF, gF, cF, vF, psF, rfl, hpsF, hs⟩
      have HpsF := Lib.hid hpsF
      clear hpsF
      have hs : St K2 w11 (wrC bF 2 (ltLock 0) (splR (ilPg ks)) vF gF cF psF 0 :: rowC (.slice (some ⟨gF, 0, none⟩) psF.length cF) 139 4 psF.length (ptRow psF) :: blk bf (.cells #[(.pointer (some ⟨bF, 0, none⟩))] 145) :: slC vF (splR (ilPg ks)) :: group [] :: group C :: memC bm bc (mvMem d ks) 0 :: blk (b18 + 1) (.cells #[.int .i64 ((splR (ilPg ks))).lev, (.slice (some ⟨ga, kl * 2, none⟩) kr (cp - kl)), .string ((splR (ilPg ks))).hi, .bool ((splR (ilPg ks))).la, .int .u64 ((splR (ilPg ks))).ri] 43) :: blk b18 (.cells #[.int .i64 ((splL (ilPg ks) 2)).lev, (.slice (some ⟨ga, 0, none⟩) kl kl), .string ((splL (ilPg ks) 2)).hi, .bool ((splL (ilPg ks) 2)).la, .int .u64 ((splL (ilPg ks) 2)).ri] 43) :: blk bp (.cells #[.int .i64 ((⟨0, [], ⟨#[]⟩, true, 0⟩ : Pg)).lev, (.slice (some ⟨ga, 0, none⟩) n cp), .string ((⟨0, [], ⟨#[]⟩, true, 0⟩ : Pg)).hi, .bool ((⟨0, [], ⟨#[]⟩, true, 0⟩ : Pg)).la, .int .u64 ((⟨0, [], ⟨#[]⟩, true, 0⟩ : Pg)).ri] 43) :: blk b1 (.cells #[.int .i64 (d).th, .int .i64 (d).sn, .int .i64 (d).no, .int .i64 (d).ch, .int .i64 (d).re, .int .i64 (d).fa, .int .u64 (d).cl] 29) :: blk b0 (.cells #[.int .i64 (d).th, .int .i64 (d).sn, .int .i64 (d).no, .int .i64 (d).ch, .int .i64 (d).re, .int .i64 (d).fa, .int .u64 (d).cl] 26) :: []) := hs
      have hs : St K2 w11 (group [] :: blk b18 (.cells #[.int .i64 ((splL (ilPg ks) 2)).lev, (.slice (some ⟨ga, 0, none⟩) kl kl), .string ((splL (ilPg ks) 2)).hi, .bool ((splL (ilPg ks) 2)).la, .int .u64 ((splL (ilPg ks) 2)).ri] 43) :: blk bp (.cells #[.int .i64 ((⟨0, [], ⟨#[]⟩, true, 0⟩ : Pg)).lev, (.slice (some ⟨ga, 0, none⟩) n cp), .string ((⟨0, [], ⟨#[]⟩, true, 0⟩ : Pg)).hi, .bool ((⟨0, [], ⟨#[]⟩, true, 0⟩ : Pg)).la, .int .u64 ((⟨0, [], ⟨#[]⟩, true, 0⟩ : Pg)).ri] 43) :: blk b1 (.cells #[.int .i64 (d).th, .int .i64 (d).sn, .int .i64 (d).no, .int .i64 (d).ch, .int .i64 (d).re, .int .i64 (d).fa, .int .u64 (d).cl] 29) :: blk b0 (.cells #[.int .i64 (d).th, .int .i64 (d).sn, .int .i64 (d).no, .int .i64 (d).ch, .int .i64 (d).re, .int .i64 (d).fa, .int .u64 (d).cl] 26) :: group C :: memC bm bc (mvMem d ks) 0 :: wrC bF 2 (ltLock 0) (splR (ilPg ks)) vF gF cF psF 0 :: rowC (.slice (some ⟨gF, 0, none⟩) psF.length cF) 139 4 psF.length (ptRow psF) :: blk bf (.cells #[(.pointer (some ⟨bF, 0, none⟩))] 145) :: []) := (hs.re [4, 8, 9, 10, 11, 5, 6, 0, 1, 2, 3, 7] rfl).sub (.cons_cons _ (.cons_cons _ (.cons_cons _ (.cons_cons _ (.cons_cons _ (.cons_cons _ (.cons_cons _ (.cons_cons _ (.cons_cons _ (.cons_cons _ (.cons _ (.cons _ (List.Sublist.refl _)))))))))))))
      have kL := hs.k1
      have kP := hs.k2
      have kl1 := hs.b3.k0
      have Hs := Lib.hid hs
      clear hs
      go_upto_region 20 with (fail)
      refine region_tail 5 (by kernel_rfl) (by as_aux_lemma => kernel_rfl) ?_
      simp only [List.take_succ_cons, List.take_zero, List.drop_succ_cons, List.drop_zero]
      repeat (go_big_quiet_step ((go_at_call 30; exact pure_of_same (QL.out _))))
      refine wpQuiet_nil ?_
      intro w12 hb12
      have hs := St.group_nil.2 (Hs.out.same hb12)
      clear Hs kL kP kl1 hb12
      have hpY := hKk.out.k.fok.left (id := 2) hd.out (by decide)
      have q := newWriteG_st (x := ilPg ks) (y := splL (ilPg ks) 2) (id := 1) (word := ltLock 0) (cx := cp) (cy := kl) HZ.out HY.out hd.out (by decide) hd.out.no1 hKk.out.hok.word hKk.out.pg hpY ⟨by show (0 : Int) ≤ 0; decide, by show (0 : Int) < 1000000; decide⟩ ⟨by show (0 : Int) ≤ 0; decide, by show (0 : Int) < 1000000; decide⟩ hs
      rw [← Hkl.out, ← Hn.out] at q
      have Q := Lib.hid q
      clear q hs hpY
      go_wp2_with fail
      refine (Q.out).mono ?_
      clear Q
      rintro e w13 ⟨bw, bW, gW, cW, vW, mid, psW, rfl, hmid, hpsW, hs⟩
      have HW : Hid (WrPs d (ilFr ks) (splL (ilPg ks) 2) psW) := Lib.hid ⟨mid, hmid, hpsW⟩
      clear hmid hpsW
      have hs : St K2 w13 (wrC bW 1 (ltEnd (ltBegin (ltLock 0))) (splL (ilPg ks) 2) vW gW cW psW 0 :: rowC (.slice (some ⟨gW, 0, none⟩) psW.length cW) 139 4 psW.length (ptRow psW) :: blk bw (.cells #[(.pointer (some ⟨bW, 0, none⟩))] 147) :: slC vW (splL (ilPg ks) 2) :: group [] :: group [] :: blk b18 (.cells #[.int .i64 ((splL (ilPg ks) 2)).lev, (.slice (some ⟨ga, 0, none⟩) kl kl), .string ((splL (ilPg ks) 2)).hi, .bool ((splL (ilPg ks) 2)).la, .int .u64 ((splL (ilPg ks) 2)).ri] 43) :: blk bp (.cells #[.int .i64 ((⟨0, [], ⟨#[]⟩, true, 0⟩ : Pg)).lev, (.slice (some ⟨ga, 0, none⟩) n cp), .string ((⟨0, [], ⟨#[]⟩, true, 0⟩ : Pg)).hi, .bool ((⟨0, [], ⟨#[]⟩, true, 0⟩ : Pg)).la, .int .u64 ((⟨0, [], ⟨#[]⟩, true, 0⟩ : Pg)).ri] 43) :: blk b1 (.cells #[.int .i64 (d).th, .int .i64 (d).sn, .int .i64 (d).no, .int .i64 (d).ch, .int .i64 (d).re, .int .i64 (d).fa, .int .u64 (d).cl] 29) :: blk b0 (.cells #[.int .i64 (d).th, .int .i64 (d).sn, .int .i64 (d).no, .int .i64 (d).ch, .int .i64 (d).re, .int .i64 (d).fa, .int .u64 (d).cl] 26) :: group C :: memC bm bc (mvMem d ks) 0 :: wrC bF 2 (ltLock 0) (splR (ilPg ks)) vF gF cF psF 0 :: rowC (.slice (some ⟨gF, 0, none⟩) psF.length cF) 139 4 psF.length (ptRow psF) :: blk bf (.cells #[(.pointer (some ⟨bF, 0, none⟩))] 145) :: []) := hs
      obtain ⟨aW, cW2, hvW, _, _⟩ := (show St K2 w13 (rowC vW 69 2 (splL (ilPg ks) 2).sl.length (slRow (splL (ilPg ks) 2).sl) :: _) from hs.b3).row_read
      subst hvW
      have hs : St K2 w13 (blk b0 (.cells #[.int .i64 (d).th, .int .i64 (d).sn, .int .i64 (d).no, .int .i64 (d).ch, .int .i64 (d).re, .int .i64 (d).fa, .int .u64 (d).cl] 26) :: blk b1 (.cells #[.int .i64 (d).th, .int .i64 (d).sn, .int .i64 (d).no, .int .i64 (d).ch, .int .i64 (d).re, .int .i64 (d).fa, .int .u64 (d).cl] 29) :: group C :: memC bm bc (mvMem d ks) 0 :: wrC bF 2 (ltLock 0) (splR (ilPg ks)) vF gF cF psF 0 :: rowC (.slice (some ⟨gF, 0, none⟩) psF.length cF) 139 4 psF.length (ptRow psF) :: blk bf (.cells #[(.pointer (some ⟨bF, 0, none⟩))] 145) :: wrC bW 1 (ltEnd (ltBegin (ltLock 0))) (splL (ilPg ks) 2) (.slice aW (splL (ilPg ks) 2).sl.length cW2) gW cW psW 0 :: slC (.slice aW (splL (ilPg ks) 2).sl.length cW2) (splL (ilPg ks) 2) :: blk bw (.cells #[(.pointer (some ⟨bW, 0, none⟩))] 147) :: rowC (.slice (some ⟨gW, 0, none⟩) psW.length cW) 139 4 psW.length (ptRow psW) :: []) := (hs.re [9, 8, 10, 11, 12, 13, 14, 0, 3, 2, 1, 4, 5, 6, 7] rfl).sub (.cons_cons _ (.cons_cons _ (.cons_cons _ (.cons_cons _ (.cons_cons _ (.cons_cons _ (.cons_cons _ (.cons_cons _ (.cons_cons _ (.cons_cons _ (.cons_cons _ (.cons _ (.cons _ (.cons _ (.cons _ (List.Sublist.refl _))))))))))))))))
      have kc := hs.k0
      have Hs := Lib.hid hs
      clear hs
      go_wp2_with fail
      refine (QN.out 2 (by decide) _).mono ?_
      clear kc
      rintro e w14 ⟨rfl, hb14⟩
      have hs := Hs.out.same hb14
      clear Hs hb14
      go_wp2_with fail
      refine (QL.out _).mono ?_
      rintro e w15 ⟨rfl, rfl⟩
      have q := newRelease_st (i := d.node 2 0) (word := ltLock 0) hs
      have Q := Lib.hid q
      clear q hs
      go_wp2_with fail
      refine (Q.out).mono ?_
      clear Q
      rintro e w16 ⟨r0, bi0, bw0, rfl, hs⟩
      have e1 : relL r0 bi0 bw0 (d.node 2 0) (ltLock 0) 0 = relL r0 bi0 bw0 (d.node 2 0) 1 0 := by rw [show ltLock 0 = (1 : Int) by decide]
      rw [e1] at hs
      have hs := hs.made (.cells [(.pointer (some ⟨r0, 0, none⟩)), .pointer none].toArray 47)
      obtain ⟨gr, hgr⟩ : ∃ b, b = w16.heap.size := ⟨_, rfl⟩
      rw [← hgr] at hs
      have hs := hs.row_lit (n := 2) (size := 1) rfl (by simp [maxLen])
      have hs : St K2 (w16.alloc (.cells [(.pointer (some ⟨r0, 0, none⟩)), .pointer none].toArray 47)) (group C :: memC bm bc (mvMem d ks) 0 :: wrC bF 2 (ltLock 0) (splR (ilPg ks)) vF gF cF psF 0 :: rowC (.slice (some ⟨gF, 0, none⟩) psF.length cF) 139 4 psF.length (ptRow psF) :: blk bf (.cells #[(.pointer (some ⟨bF, 0, none⟩))] 145) :: wrC bW 1 (ltEnd (ltBegin (ltLock 0))) (splL (ilPg ks) 2) (.slice aW (splL (ilPg ks) 2).sl.length cW2) gW cW psW 0 :: slC (.slice aW (splL (ilPg ks) 2).sl.length cW2) (splL (ilPg ks) 2) :: blk bw (.cells #[(.pointer (some ⟨bW, 0, none⟩))] 147) :: rowC (.slice (some ⟨gW, 0, none⟩) psW.length cW) 139 4 psW.length (ptRow psW) ::
        rowC (.slice (some ⟨gr, 0, none⟩) 2 2) 47 1 2 [(.pointer (some ⟨r0, 0, none⟩)), .pointer none] :: (relL r0 bi0 bw0 (d.node 2 0) 1 0 ++ (blk b1 (.cells #[.int .i64 (d).th, .int .i64 (d).sn, .int .i64 (d).no, .int .i64 (d).ch, .int .i64 (d).re, .int .i64 (d).fa, .int .u64 (d).cl] 29) :: blk b0 (.cells #[.int .i64 (d).th, .int .i64 (d).sn, .int .i64 (d).no, .int .i64 (d).ch, .int .i64 (d).re, .int .i64 (d).fa, .int .u64 (d).cl] 26) :: []))) := by
        exact (show St K2 (w16.alloc (.cells [(.pointer (some ⟨r0, 0, none⟩)), .pointer none].toArray 47)) (rowC _ _ _ _ _ :: _ :: _ :: _ :: blk b0 (.cells #[.int .i64 (d).th, .int .i64 (d).sn, .int .i64 (d).no, .int .i64 (d).ch, .int .i64 (d).re, .int .i64 (d).fa, .int .u64 (d).cl] 26) :: blk b1 (.cells #[.int .i64 (d).th, .int .i64 (d).sn, .int .i64 (d).no, .int .i64 (d).ch, .int .i64 (d).re, .int .i64 (d).fa, .int .u64 (d).cl] 29) :: group C :: _ :: _ :: _ :: _ :: _ :: _ :: _ :: _ :: []) from hs).re [6, 7, 8, 9, 10, 11, 12, 13, 14, 0, 1, 2, 3, 5, 4] rfl
      go_upto_region 22 with (fail)
      rw [← hgr]
      clear hgr e1
      refine wp_ck hs ?_
      clear hs
      intro w17 hs
      have hms : insMs (ilPg ks) (mvS0 d ks) ≤ 20 := by
        rcases (MvK.start (key := key') hKk.out).st with ⟨_, _, _, _, _, _, _, h⟩ | ⟨h, _⟩
        · exact h
        · omega
      have HS : Hid (MvH K2 bm bc bx bf bw gr 2 r0 bi0 bw0 d ks key' 0 false 123 0 (blk b1 (.cells #[.int .i64 (d).th, .int .i64 (d).sn, .int .i64 (d).no, .int .i64 (d).ch, .int .i64 (d).re, .int .i64 (d).fa, .int .u64 (d).cl] 29) :: blk b0 (.cells #[.int .i64 (d).th, .int .i64 (d).sn, .int .i64 (d).no, .int .i64 (d).ch, .int .i64 (d).re, .int .i64 (d).fa, .int .u64 (d).cl] 26) :: []) w17) := Lib.hid (.inl ⟨by omega, mvMem d ks, mvS0 d ks, lok0, 90, C, bF, gF, cF, vF, psF, 0, bW, gW, cW, aW, cW2, psW, 0, rfl, hKk.out.start, by unfold mvP; rw [if_pos (by omega)]; omega, ⟨fun _ => ⟨HpsF.out, rfl, rfl, HW.out⟩, fun h => by omega, fun h => by omega⟩, Hr.out, hs⟩)
      clear hs hms Hr HpsF HW HY HZ Hn Hnn Hkl Hkr Hfz
      go_upto_region 23 with (fail)
      go_cut [28] from 999 to 0 (fun v28 wx => v28 = .int .i64 0 ∧ Hid (MvH K2 bm bc bx bf bw gr 2 r0 bi0 bw0 d ks key' 0 false 123 0 (blk b1 (.cells #[.int .i64 (d).th, .int .i64 (d).sn, .int .i64 (d).no, .int .i64 (d).ch, .int .i64 (d).re, .int .i64 (d).fa, .int .u64 (d).cl] 29) :: blk b0 (.cells #[.int .i64 (d).th, .int .i64 (d).sn, .int .i64 (d).no, .int .i64 (d).ch, .int .i64 (d).re, .int .i64 (d).fa, .int .u64 (d).cl] 26) :: []) wx))
      case first =>
        as_aux_lemma =>
        go_wp2
        go_meet
        exact ⟨rfl, HS⟩
      case rest =>
      clear HS
      obtain ⟨rfl, HS⟩ := hcut
      apply_assumption
      go_cut [26, 27, 28] from 999 to 0 (fun v26 v27 _ wx => ∃ (stage pp acc : Nat), v26 = .int .i64 stage ∧ v27 = .bool true ∧ Hid (MvH K2 bm bc bx bf bw gr 2 r0 bi0 bw0 d ks key' stage true pp acc (blk b1 (.cells #[.int .i64 (d).th, .int .i64 (d).sn, .int .i64 (d).no, .int .i64 (d).ch, .int .i64 (d).re, .int .i64 (d).fa, .int .u64 (d).cl] 29) :: blk b0 (.cells #[.int .i64 (d).th, .int .i64 (d).sn, .int .i64 (d).no, .int .i64 (d).ch, .int .i64 (d).re, .int .i64 (d).fa, .int .u64 (d).cl] 26) :: []) wx))
      case first =>
        go_wp2
        go_loopw [26, 27, 28] (fun v26 v27 v28 wr => ∃ (stage k pp acc : Nat) (dn : Bool), v26 = .int .i64 stage ∧ v27 = .bool dn ∧ v28 = .int .i64 k ∧ Hid (k ≤ lp + 300 ∧ acc ≤ k ∧ pp ≤ 123 - (k - lp)) ∧ Hid (MvH K2 bm bc bx bf bw gr 2 r0 bi0 bw0 d ks key' stage dn pp acc (blk b1 (.cells #[.int .i64 (d).th, .int .i64 (d).sn, .int .i64 (d).no, .int .i64 (d).ch, .int .i64 (d).re, .int .i64 (d).fa, .int .u64 (d).cl] 29) :: blk b0 (.cells #[.int .i64 (d).th, .int .i64 (d).sn, .int .i64 (d).no, .int .i64 (d).ch, .int .i64 (d).re, .int .i64 (d).fa, .int .u64 (d).cl] 26) :: []) wr)) (fun _ _ v _ => 1000 - (intOf v).toNat)
        case atStart => exact ⟨0, 0, 123, 0, false, rfl, rfl, rfl, Lib.hid (by omega), HS⟩
        case round =>
          clear HS
          obtain ⟨stage, k, pp, acc, dn, rfl, rfl, rfl, Hk, HS⟩ := hrel
          cases dn with
          | true =>
            by_cases hlt : (k : Int) < (lp : Int) + 300
            · go_wp2
              go_meet
              exact ⟨stage, pp, acc, rfl, rfl, HS⟩
            · go_wp2
              go_meet
              exact ⟨stage, pp, acc, rfl, rfl, HS⟩
          | false =>
            have hpos := HS.out.pos hKk.out
            have hlo := HS.out.low
            have hlp2 := Hlp2.out
            have hlt : (k : Int) < (lp : Int) + 300 := by have := Hk.out; omega
            have Hac := Lib.hid (show acc ≤ 1000000000000 by have := Hk.out; omega)
            have Hpos := Lib.hid hpos
            have hk9 : (k : Int) < 400 := by omega
            clear hpos
            go_upto_region 26 with (fail)
            go_cut [156] from 145 to 157 (fun v wx => ∃ b : Bool, v = .bool b ∧ Hid (b = true → k < lp) ∧ Hid (MvH K2 bm bc bx bf bw gr 2 r0 bi0 bw0 d ks key' stage false pp acc (blk b1 (.cells #[.int .i64 (d).th, .int .i64 (d).sn, .int .i64 (d).no, .int .i64 (d).ch, .int .i64 (d).re, .int .i64 (d).fa, .int .u64 (d).cl] 29) :: blk b0 (.cells #[.int .i64 (d).th, .int .i64 (d).sn, .int .i64 (d).no, .int .i64 (d).ch, .int .i64 (d).re, .int .i64 (d).fa, .int .u64 (d).cl] 26) :: []) wx))
            case first =>
              as_aux_lemma =>
              have hbel : Below w.heap.size w wr := HS.out.st.below Hle.out
              by_cases hkp : k < lp
              · obtain ⟨qb, qoff, rfl, hqlt, kq, wq⟩ := Hq.out.2 k hkp
                rw [← hbel.cell (p := ⟨qb, qoff + k, none⟩) hqlt] at kq
                generalize P k = pk at *
                have wq := wf_u8 wq
                obtain ⟨wq1, wq2⟩ := wq
                clear hbel
                go_wp2
                go_meet
                exact ⟨_, rfl, Lib.hid (fun _ => by omega), HS⟩
              · clear hbel
                go_wp2
                go_meet
                exact ⟨false, rfl, Lib.hid (fun h => by cases h), HS⟩
            case rest =>
            clear HS
            obtain ⟨b, rfl, Hb, HS⟩ := hcut
            apply_assumption
            cases b with
            | true =>
              -- <PK
              have hkl := Hb.out rfl
              have q := HS.out.lock hKk.out Hac.out
              have Q := Lib.hid q
              have Hkl := Lib.hid hkl
              clear q HS hkl
              go_wp2_with fail
              refine (Q.out).mono ?_
              clear Q
              rintro e w20 ⟨dn', pp', rfl, h1, h2, hH⟩
              have HS := Lib.hid hH
              have Hk2 : Hid (k + 1 ≤ lp + 300 ∧ acc + 1 ≤ k + 1 ∧ pp' ≤ 123 - (k + 1 - lp)) := Lib.hid (by have := Hk.out; have := Hkl.out; omega)
              clear hH h1 h2
              cases dn' with
              | false =>
                go_wp2
                go_roundw
                case rel => exact ⟨stage, k + 1, pp', acc + 1, false, rfl, rfl, by go_num, Hk2, HS⟩
                case measure => simp [intOf]; omega
              | true =>
                by_cases h4 : stage = 4
                · subst h4
                  go_wp2
                  go_roundw
                  case rel => exact ⟨4, k + 1, pp', acc + 1, true, rfl, rfl, by go_num, Hk2, HS⟩
                  case measure => simp [intOf]; omega
                · have h4' : (stage : Int) < 4 := by omega
                  have q := HS.out.held hKk.out
                  have Q := Lib.hid q
                  clear q HS
                  go_wp2_with fail
                  refine (Q.out).mono ?_
                  clear Q
                  rintro e w21 ⟨h, va, L, rfl, hD, _, hs, hH⟩
                  obtain ⟨a9, c9, rfl, _, _⟩ := (show St K2 w21 (rowC va 69 2 h.pg.sl.length (slRow h.pg.sl) :: _) from hs).row_read
                  clear hs
                  rcases hD.c with ⟨_, e4, _⟩ | ⟨e2, e4, _⟩
                  · exact absurd e4 h4
                  · obtain rfl : stage = 3 := by omega
                    have HS := Lib.hid hH
                    clear hH hD h4 h4' hlo
                    obtain ⟨hid, hwd, hpg⟩ := h
                    simp only at e2
                    subst e2
                    go_wp2
                    go_roundw
                    case rel => exact ⟨3, k + 1, pp', acc + 1, true, rfl, rfl, by go_num, Hk2, HS⟩
                    case measure => simp [intOf]; omega
              -- PK>
            | false =>
              have Hk2 : Hid (k + 1 ≤ lp + 300 ∧ acc + 1 ≤ k + 1 ∧ pp - 1 ≤ 123 - (k + 1 - lp)) := Lib.hid (by have := Hk.out; have := Hpos.out; omega)
              clear Hb
              rcases (by omega : stage = 0 ∨ stage = 1 ∨ stage = 2 ∨ stage = 3 ∨ stage = 4) with rfl | rfl | rfl | rfl | rfl
              · -- <S0
                have q := HS.out.fresh hKk.out Hac.out
                have Q := Lib.hid q
                clear q HS hlo
                go_wp2_with fail
                refine (Q.out).mono ?_
                clear Q
                rintro e w20 ⟨fin, rfl, _, hH⟩
                have HS := Lib.hid hH
                clear hH
                cases fin with
                | false =>
                  go_wp2
                  go_roundw
                  case rel => exact ⟨0, k + 1, pp - 1, acc + 1, false, rfl, rfl, by go_num, Hk2, HS⟩
                  case measure => simp [intOf]; omega
                | true =>
                  go_wp2
                  go_roundw
                  case rel => exact ⟨1, k + 1, pp - 1, acc + 1, false, rfl, rfl, by go_num, Hk2, HS⟩
                  case measure => simp [intOf]; omega
                -- S0>
              · -- <S1
                have q := HS.out.write hKk.out Hac.out
                have Q := Lib.hid q
                clear q HS hlo
                go_wp2_with fail
                refine (Q.out).mono ?_
                clear Q
                rintro e w20 ⟨fin, rfl, _, ⟨rfl, hH⟩ | ⟨rfl, hG⟩⟩
                · have HS := Lib.hid hH
                  clear hH
                  go_wp2
                  go_roundw
                  case rel => exact ⟨1, k + 1, pp - 1, acc + 1, false, rfl, rfl, by go_num, Hk2, HS⟩
                  case measure => simp [intOf]; omega
                · have kc := hG.st.b5.k0
                  have HG := Lib.hid hG
                  clear hG
                  go_wp2_with fail
                  refine (QN.out 1 (by decide) _).mono ?_
                  clear kc
                  rintro e w21 ⟨rfl, hb21⟩
                  have q := (HG.out.chg (fun G hs => hs.same hb21)).word hKk.out
                  have Q := Lib.hid q
                  clear q HG hb21
                  go_wp2_with fail
                  refine (Q.out).mono ?_
                  clear Q
                  rintro e w22 ⟨va, rfl, hG⟩
                  obtain ⟨a9, c9, rfl, _, _⟩ := (show St K2 w22 (rowC va 69 2 (splL (ilPg ks) 2).sl.length (slRow (splL (ilPg ks) 2).sl) :: _) from hG.st).row_read
                  have q := MvG.newRel (i := d.node 1 0) (word := 5) hG
                  have Q := Lib.hid q
                  clear q hG
                  go_wp2_with fail
                  refine (Q.out).mono ?_
                  clear Q
                  rintro e w23 ⟨r1, bi1, bw1, rfl, hG⟩
                  have hr := hG.st.b4
                  have fz := hr.row_free (by omega)
                  have cH := hr.row_cell (j := 1) (x := .pointer none) rfl
                  have hH : MvH K2 bm bc bx bf bw gr 2 r0 bi0 bw0 d ks key' 2 false (pp - 1) (acc + 1) (blk b1 (.cells #[.int .i64 (d).th, .int .i64 (d).sn, .int .i64 (d).no, .int .i64 (d).ch, .int .i64 (d).re, .int .i64 (d).fa, .int .u64 (d).cl] 29) :: blk b0 (.cells #[.int .i64 (d).th, .int .i64 (d).sn, .int .i64 (d).no, .int .i64 (d).ch, .int .i64 (d).re, .int .i64 (d).fa, .int .u64 (d).cl] 26) :: []) (w23.setCell ⟨gr, 1, none⟩ (.pointer (some ⟨r1, 0, none⟩))) := .inr ⟨by omega, by omega, r1, bi1, bw1, hG.chg (fun G hs => by
                    have h := (show St K2 w23 (_ :: _ :: _ :: _ :: rowC (.slice (some ⟨gr, 0, none⟩) 2 2) 47 1 2 [(.pointer (some ⟨r0, 0, none⟩)), .pointer none] :: _ :: _ :: _ :: blk b1 (.cells #[.int .i64 (d).th, .int .i64 (d).sn, .int .i64 (d).no, .int .i64 (d).ch, .int .i64 (d).re, .int .i64 (d).fa, .int .u64 (d).cl] 29) :: blk b0 (.cells #[.int .i64 (d).th, .int .i64 (d).sn, .int .i64 (d).no, .int .i64 (d).ch, .int .i64 (d).re, .int .i64 (d).fa, .int .u64 (d).cl] 26) :: G) from hs).b4.row_set (j := 1) (.pointer (some ⟨r1, 0, none⟩))
                    exact (show St K2 _ (rowC (.slice (some ⟨gr, 0, none⟩) 2 2) 47 1 2 [(.pointer (some ⟨r0, 0, none⟩)), (.pointer (some ⟨r1, 0, none⟩))] :: _ :: _ :: _ :: _ :: _ :: _ :: _ :: blk b1 (.cells #[.int .i64 (d).th, .int .i64 (d).sn, .int .i64 (d).no, .int .i64 (d).ch, .int .i64 (d).re, .int .i64 (d).fa, .int .u64 (d).cl] 29) :: blk b0 (.cells #[.int .i64 (d).th, .int .i64 (d).sn, .int .i64 (d).no, .int .i64 (d).ch, .int .i64 (d).re, .int .i64 (d).fa, .int .u64 (d).cl] 26) :: G) from h).re [4, 0, 5, 6, 7, 1, 2, 3, 8, 9] rfl |>.tail)⟩
                  have HS := Lib.hid hH
                  clear hH hG hr
                  go_wp2
                  go_roundw
                  case rel => exact ⟨2, k + 1, pp - 1, acc + 1, false, rfl, rfl, by go_num, Hk2, HS⟩
                  case measure => simp [intOf]; omega
                -- S1>
              · -- <S2
                obtain ⟨r, cr0, q⟩ := HS.out.rel hKk.out Hac.out (by omega) (by omega)
                have Q := Lib.hid q
                clear q HS hlo
                go_wp2_with fail
                refine (Q.out).mono ?_
                clear Q cr0
                rintro e w20 ⟨rfl, _, hH⟩
                have HS := Lib.hid hH
                clear hH
                go_wp2
                go_roundw
                case rel => exact ⟨3, k + 1, pp - 1, acc + 1, false, rfl, rfl, by go_num, Hk2, HS⟩
                case measure => simp [intOf]; omega
                -- S2>
              · -- <S3
                obtain ⟨r, cr0, q⟩ := HS.out.rel hKk.out Hac.out (by omega) (by omega)
                have Q := Lib.hid q
                clear q HS hlo
                go_wp2_with fail
                refine (Q.out).mono ?_
                clear Q cr0
                rintro e w20 ⟨rfl, _, hH⟩
                have HS := Lib.hid hH
                clear hH
                go_wp2
                go_roundw
                case rel => exact ⟨4, k + 1, pp - 1, acc + 1, false, rfl, rfl, by go_num, Hk2, HS⟩
                case measure => simp [intOf]; omega
                -- S3>
              · -- <S4
                have q := HS.out.lock hKk.out Hac.out
                have Q := Lib.hid q
                clear q HS hlo
                go_wp2_with fail
                refine (Q.out).mono ?_
                clear Q
                rintro e w20 ⟨dn', pp', rfl, _, h2, hH⟩
                have HS := Lib.hid hH
                have Hk3 : Hid (k + 1 ≤ lp + 300 ∧ acc + 1 ≤ k + 1 ∧ pp' ≤ 123 - (k + 1 - lp)) := Lib.hid (by have := Hk2.out; have := h2 (by trivial); omega)
                clear hH h2
                go_wp2
                go_roundw
                case rel => exact ⟨4, k + 1, pp', acc + 1, dn', rfl, rfl, by go_num, Hk3, HS⟩
                case measure => simp [intOf]; omega
                -- S4>
      case rest =>
      clear HS
      obtain ⟨stage, pp, acc, rfl, rfl, HS⟩ := hcut
      apply_assumption
      cases hks : klt key' (splSep (ilPg ks)) with
      | true =>
        have q := HS.out.held hKk.out
        have Q := Lib.hid q
        have Hks := Lib.hid hks
        clear q HS
        go_wp2_with fail
        refine (Q.out).mono ?_
        clear Q hks
        rintro e w21 ⟨h, va, L, rfl, hD, hl, hs, _⟩
        obtain ⟨ah, ch2, rfl, _, _⟩ := (show St K2 w21 (rowC va 69 2 h.pg.sl.length (slRow h.pg.sl) :: _) from hs).row_read
        replace hs := hs.tail
        replace hD := hD.c
        rw [Hks.out] at hD
        obtain ⟨hid, hwd, hpg⟩ := h
        simp only at hD hl
        rcases hD with ⟨e1, e4, _, g1, g2⟩ | ⟨_, _, h, _⟩
        · subst e1 e4
          have Qp := Lib.hid (fun (i : Int) W (h : MemAt W bm bc L acc) => peek_any W bm bc L acc i h)
          have QK := Lib.hid (fun (x : Int) (h : 0 ≤ x ∧ x < 6) w => ltLocked_any x h.1 (by omega) w)
          have hs := hs.made (.cells #[.int .u64 1, .int .u64 hwd, .int .i64 hpg.lev, .slice ah hpg.sl.length ch2, .string hpg.hi, .bool hpg.la, .int .u64 hpg.ri] 45)
          obtain ⟨b30, hb30⟩ : ∃ b, b = w21.heap.size := ⟨_, rfl⟩
          rw [← hb30] at hs
          go_upto_region 47 with (fail)
          rw [← hb30]
          clear hb30
          refine wp_ck hs ?_
          clear hs
          intro w22 hs
          have hs : St K2 w22 (memC bm bc L acc :: blk b30 (.cells #[.int .u64 1, .int .u64 hwd, .int .i64 hpg.lev, .slice ah hpg.sl.length ch2, .string hpg.hi, .bool hpg.la, .int .u64 hpg.ri] 45) :: blk b1 (.cells #[.int .i64 (d).th, .int .i64 (d).sn, .int .i64 (d).no, .int .i64 (d).ch, .int .i64 (d).re, .int .i64 (d).fa, .int .u64 (d).cl] 29) :: blk b0 (.cells #[.int .i64 (d).th, .int .i64 (d).sn, .int .i64 (d).no, .int .i64 (d).ch, .int .i64 (d).re, .int .i64 (d).fa, .int .u64 (d).cl] 26) :: []) := hs.re [1, 0, 2, 3] rfl
          have kh := hs.b1.k0
          have kc := hs.b3.k0
          go_wp2_with fail
          refine (calls_same hs (QN.out 1 (by decide) _)).mono ?_
          clear hs kh kc
          rintro e w23 ⟨rfl, hs⟩
          go_wp2_with fail
          refine (calls_same hs (Qp.out _ _ hs.mem)).mono ?_
          clear hs
          rintro e w24 ⟨rfl, hs⟩
          go_wp2_with fail

          refine (calls_id hs (QK.out 5 (by decide) _)).mono ?_
          clear hs
          rintro e w25 ⟨rfl, hs⟩
          have kc := hs.b3.k0
          go_wp2_with fail
          refine (calls_same hs (QN.out 2 (by decide) _)).mono ?_
          clear hs kc
          rintro e w26 ⟨rfl, hs⟩
          go_wp2_with fail
          refine (calls_same hs (Qp.out _ _ hs.mem)).mono ?_
          clear hs
          rintro e w27 ⟨rfl, hs⟩
          go_wp2_with fail

          refine (calls_id hs (QK.out 0 (by decide) _)).mono ?_
          clear hs
          rintro e w28 ⟨rfl, hs⟩
          have Hb := Lib.hid (hs.below Hle.out)
          clear hs
          go_wp2
          go_ret
          exact ⟨rfl, Hb.out⟩
        · cases h
      | false =>
        have q := HS.out.held hKk.out
        have Q := Lib.hid q
        have Hks := Lib.hid hks
        clear q HS
        go_wp2_with fail
        refine (Q.out).mono ?_
        clear Q hks
        rintro e w21 ⟨h, va, L, rfl, hD, hl, hs, _⟩
        obtain ⟨ah, ch2, rfl, _, _⟩ := (show St K2 w21 (rowC va 69 2 h.pg.sl.length (slRow h.pg.sl) :: _) from hs).row_read
        replace hs := hs.tail
        replace hD := hD.c
        rw [Hks.out] at hD
        obtain ⟨hid, hwd, hpg⟩ := h
        simp only at hD hl
        rcases hD with ⟨_, _, h, _⟩ | ⟨e2, e4, _, g2, g1⟩
        · cases h
        · subst e2
          rcases e4 with rfl | rfl
          · rw [if_neg (by decide)] at g1
            have Qp := Lib.hid (fun (i : Int) W (h : MemAt W bm bc L acc) => peek_any W bm bc L acc i h)
            have QK := Lib.hid (fun (x : Int) (h : 0 ≤ x ∧ x < 6) w => ltLocked_any x h.1 (by omega) w)
            have hs := hs.made (.cells #[.int .u64 2, .int .u64 hwd, .int .i64 hpg.lev, .slice ah hpg.sl.length ch2, .string hpg.hi, .bool hpg.la, .int .u64 hpg.ri] 45)
            obtain ⟨b30, hb30⟩ : ∃ b, b = w21.heap.size := ⟨_, rfl⟩
            rw [← hb30] at hs
            go_upto_region 47 with (fail)
            rw [← hb30]
            clear hb30
            refine wp_ck hs ?_
            clear hs
            intro w22 hs
            have hs : St K2 w22 (memC bm bc L acc :: blk b30 (.cells #[.int .u64 2, .int .u64 hwd, .int .i64 hpg.lev, .slice ah hpg.sl.length ch2, .string hpg.hi, .bool hpg.la, .int .u64 hpg.ri] 45) :: blk b1 (.cells #[.int .i64 (d).th, .int .i64 (d).sn, .int .i64 (d).no, .int .i64 (d).ch, .int .i64 (d).re, .int .i64 (d).fa, .int .u64 (d).cl] 29) :: blk b0 (.cells #[.int .i64 (d).th, .int .i64 (d).sn, .int .i64 (d).no, .int .i64 (d).ch, .int .i64 (d).re, .int .i64 (d).fa, .int .u64 (d).cl] 26) :: []) := hs.re [1, 0, 2, 3] rfl
            have kh := hs.b1.k0
            have kc := hs.b3.k0
            go_wp2_with fail
            refine (calls_same hs (QN.out 2 (by decide) _)).mono ?_
            clear hs kh kc
            rintro e w23 ⟨rfl, hs⟩
            go_wp2_with fail
            refine (calls_same hs (Qp.out _ _ hs.mem)).mono ?_
            clear hs
            rintro e w24 ⟨rfl, hs⟩
            go_wp2_with fail

            refine (calls_id hs (QK.out 1 (by decide) _)).mono ?_
            clear hs
            rintro e w25 ⟨rfl, hs⟩
            have kc := hs.b3.k0
            go_wp2_with fail
            refine (calls_same hs (QN.out 1 (by decide) _)).mono ?_
            clear hs kc
            rintro e w26 ⟨rfl, hs⟩
            go_wp2_with fail
            refine (calls_same hs (Qp.out _ _ hs.mem)).mono ?_
            clear hs
            rintro e w27 ⟨rfl, hs⟩
            go_wp2_with fail

            refine (calls_id hs (QK.out 5 (by decide) _)).mono ?_
            clear hs
            rintro e w28 ⟨rfl, hs⟩
            have Hb := Lib.hid (hs.below Hle.out)
            clear hs
            go_wp2
            go_ret
            exact ⟨rfl, Hb.out⟩
          · rw [if_pos rfl] at g1
            have Qp := Lib.hid (fun (i : Int) W (h : MemAt W bm bc L acc) => peek_any W bm bc L acc i h)
            have QK := Lib.hid (fun (x : Int) (h : 0 ≤ x ∧ x < 6) w => ltLocked_any x h.1 (by omega) w)
            have hs := hs.made (.cells #[.int .u64 2, .int .u64 hwd, .int .i64 hpg.lev, .slice ah hpg.sl.length ch2, .string hpg.hi, .bool hpg.la, .int .u64 hpg.ri] 45)
            obtain ⟨b30, hb30⟩ : ∃ b, b = w21.heap.size := ⟨_, rfl⟩
            rw [← hb30] at hs
            go_upto_region 47 with (fail)
            rw [← hb30]
            clear hb30
            refine wp_ck hs ?_
            clear hs
            intro w22 hs
            have hs : St K2 w22 (memC bm bc L acc :: blk b30 (.cells #[.int .u64 2, .int .u64 hwd, .int .i64 hpg.lev, .slice ah hpg.sl.length ch2, .string hpg.hi, .bool hpg.la, .int .u64 hpg.ri] 45) :: blk b1 (.cells #[.int .i64 (d).th, .int .i64 (d).sn, .int .i64 (d).no, .int .i64 (d).ch, .int .i64 (d).re, .int .i64 (d).fa, .int .u64 (d).cl] 29) :: blk b0 (.cells #[.int .i64 (d).th, .int .i64 (d).sn, .int .i64 (d).no, .int .i64 (d).ch, .int .i64 (d).re, .int .i64 (d).fa, .int .u64 (d).cl] 26) :: []) := hs.re [1, 0, 2, 3] rfl
            have kh := hs.b1.k0
            have kc := hs.b3.k0
            go_wp2_with fail
            refine (calls_same hs (QN.out 2 (by decide) _)).mono ?_
            clear hs kh kc
            rintro e w23 ⟨rfl, hs⟩
            go_wp2_with fail
            refine (calls_same hs (Qp.out _ _ hs.mem)).mono ?_
            clear hs
            rintro e w24 ⟨rfl, hs⟩
            go_wp2_with fail

            refine (calls_id hs (QK.out 1 (by decide) _)).mono ?_
            clear hs
            rintro e w25 ⟨rfl, hs⟩
            have kc := hs.b3.k0
            go_wp2_with fail
            refine (calls_same hs (QN.out 1 (by decide) _)).mono ?_
            clear hs kc
            rintro e w26 ⟨rfl, hs⟩
            go_wp2_with fail
            refine (calls_same hs (Qp.out _ _ hs.mem)).mono ?_
            clear hs
            rintro e w27 ⟨rfl, hs⟩
            go_wp2_with fail

            refine (calls_id hs (QK.out 4 (by decide) _)).mono ?_
            clear hs
            rintro e w28 ⟨rfl, hs⟩
            have Hb := Lib.hid (hs.below Hle.out)
            clear hs
            go_wp2
            go_ret
            exact ⟨rfl, Hb.out⟩
end Go.Proofs.YtlpdhhhgckpcfaaGreat
