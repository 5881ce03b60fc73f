/- The walk of NodeWriteStages. -/
import Derived.Test.YtfgjanponijkhaaAw8
import Derived.Test.YtfgjanponijkhaaNodeStage
import Derived.Test.YtfgjanponijkhaaNodePeek
import Derived.Test.YtfgjanponijkhaaPgReg
namespace Go.Proofs.Ytfgjanponijkhaa
open Go.RowKit
set_option maxRecDepth 100000

set_option maxHeartbeats 16000000 in
theorem nodeWriteStages_walk (fanout lev : Int) (a : Option Addr) (len cap : Nat) (hi : ByteArray) (la : Bool) (ri : Int) (f : Nat → Sl) (lev' : Int) (a' : Option Addr) (len' cap' : Nat) (hi' : ByteArray) (la' : Bool) (ri' : Int) (f' : Nat → Sl) (word : Int)
    (hword : 0 ≤ word ∧ word < 18446744073709551616) (w : World) (h : PgIn w lev a len cap hi ri f) (h' : PgIn w lev' a' len' cap' hi' ri' f') :
    Calls Try.prog 6 #[.int .i64 fanout, .agg #[.int .i64 lev, .slice a len cap, .string hi, .bool la, .int .u64 ri], .agg #[.int .i64 lev', .slice a' len' cap', .string hi', .bool la', .int .u64 ri'], .int .u64 word] w fun e w' => e = .returned (.bool true) ∧ Below w.heap.size w w' := by
  obtain ⟨d, hd, hno, Q1, Q2⟩ : ∃ d : Cfg, Hid d.Ok ∧ Hid (1 ≤ d.no) ∧ Hid (∀ w, Calls Try.prog 17 #[.int .i64 1, .int .i64 fanout] w fun e w' => e = .returned (.agg #[.int .i64 d.th, .int .i64 d.sn, .int .i64 d.no, .int .i64 d.ch, .int .i64 d.re, .int .i64 d.fa, .int .u64 d.cl]) ∧ Below w.heap.size w w') ∧ Hid (∀ w K cs, St K w cs → Calls Try.prog 18 #[.agg #[.int .i64 d.th, .int .i64 d.sn, .int .i64 d.no, .int .i64 d.ch, .int .i64 d.re, .int .i64 d.fa, .int .u64 d.cl]] w fun e w'' => ∃ bm bc, e = .returned (.tuple #[.agg #[.int .i64 d.th, .int .i64 d.sn, .int .i64 d.no, .int .i64 d.ch, .int .i64 d.re, .int .i64 d.fa, .int .u64 d.cl], .pointer (some ⟨bm, 0, none⟩)]) ∧ St K w'' (memC bm bc (startL d) 0 :: cs)) :=
    ⟨kitC 1 (4 + fanout % 3) 1000, Lib.hid (kit8_ok fanout), Lib.hid (by simp [kitC]), Lib.hid (fun w => kitConfig_any 1 fanout w), Lib.hid (fun w K cs hs => kitMemory_st (kit8_ok fanout) hs)⟩
  have f1 := hd.out.fa1
  have f2 := hd.out.fa2
  obtain ⟨_, _, p3, p4⟩ := start_page hd.out
  obtain ⟨x, hx⟩ : ∃ x, x = ctPg d 0 len hi la ri f := ⟨_, rfl⟩
  obtain ⟨y, hy⟩ : ∃ y, y = ctPg d 0 len' hi' la' ri' f' := ⟨_, rfl⟩
  have pox : PgOk d x := by rw [hx]; exact ctPg_ok hd.out h
  have poy : PgOk d y := by rw [hy]; exact ctPg_ok hd.out h'
  have lx : x.lev = 0 := by rw [hx]; rfl
  have ly : y.lev = 0 := by rw [hy]; rfl
  have qc := fun w1 K cs (hs : St K w1 cs) (hp : PgIn w1 lev a len cap hi ri f) => content_st (level := 0) (la := la) hd.out hs hp
  have qc' := fun w1 K cs (hs : St K w1 cs) (hp : PgIn w1 lev' a' len' cap' hi' ri' f') => content_st (level := 0) (la := la') hd.out hs hp
  rw [← hx] at qc
  rw [← hy] at qc'
  generalize startL d = L0 at *
  have pk : CelsOk (putPg d 1 x L0) := putPg_ok p3 (by have := pox.le; omega) pox.ri pox.r
  have pl : ((putPg d 1 x L0).length : Int) = d.cells := by rw [putPg_length]; exact p4
  have ph : Holds (putPg d 1 x L0) (pgPts d 1 x) := putPg_holds hd.out (by omega) hno.out p4 pox.le pox.la
  obtain ⟨L1, hL1⟩ : ∃ L1, L1 = putPg d 1 x L0 := ⟨_, rfl⟩
  rw [← hL1] at pk pl ph
  have b1 := ltEnd_bd word
  obtain ⟨old, hold⟩ : ∃ old, old = ltLock (ltEnd word) := ⟨_, rfl⟩
  have ob : 0 ≤ old ∧ old < 18446744073709551616 := by rw [hold]; exact ltLock_bd b1.1 b1.2
  have och : ltChg old = false := by rw [hold]; exact ltLock_chg (ltEnd_chg hword.1)
  have nb1 := ltBegin_bd ob.1 ob.2
  have nb2 := ltEnd_bd (ltBegin old)
  have nch := ltEnd_chg (x := ltBegin old) nb1.1
  have nne := ltEnd_ne ob.1 ob.2 och
  have k2 : CelsOk (putC L1 (d.node 1 0) ⟨old, ⟨#[]⟩, 0⟩) := pk.put ob
  have h2 : Holds (putC L1 (d.node 1 0) ⟨old, ⟨#[]⟩, 0⟩) (pgPts d 1 x) := by
    intro p hp
    obtain ⟨k, a1, a2, e⟩ := pgPts_addr hd.out (id := 1) (by omega) hno.out pox.le p hp
    rw [getC_ne (by rw [e]; exact node_ne hd.out (by omega) hno.out (by omega) a2 (by omega) (by omega) (by omega))]
    exact ph p hp
  have l2 : ((putC L1 (d.node 1 0) ⟨old, ⟨#[]⟩, 0⟩).length : Int) = d.cells := by rw [putC_length]; exact pl
  obtain ⟨L2, hL2⟩ : ∃ L2, L2 = putC L1 (d.node 1 0) ⟨old, ⟨#[]⟩, 0⟩ := ⟨_, rfl⟩
  rw [← hL2] at k2 h2 l2
  have Qc := Lib.hid qc
  have Qc' := Lib.hid qc'
  have Qn := Lib.hid (fun w => refNode_any d hd.out 1 0 (by omega) (by omega) (by omega) (by omega) w)
  have Qe0 := Lib.hid (fun w => ltEnd_any word hword.1 hword.2 w)
  have ql := fun w => ltLock_any (ltEnd word) b1.1 b1.2 w
  rw [← hold] at ql
  have Ql := Lib.hid ql
  have Qb := Lib.hid (fun w => ltBegin_any old ob.1 ob.2 w)
  have Qe := Lib.hid (fun w => ltEnd_any (ltBegin old) nb1.1 nb1.2 w)
  have Qg1 := Lib.hid (fun w => ltChanging_any (ltBegin old) nb1.1 nb1.2 w)
  have Qg2 := Lib.hid (fun w => ltChanging_any (ltEnd (ltBegin old)) nb2.1 nb2.2 w)
  have qg1 := Qg1.out
  rw [show ltChg (ltBegin old) = true from ltBegin_chg] at qg1
  have qg2 := Qg2.out
  rw [nch] at qg2
  have Qg1 := Lib.hid qg1
  have Qg2 := Lib.hid qg2
  have HL1 := Lib.hid hL1
  have HL2 := Lib.hid hL2
  have K2 := Lib.hid k2
  have H2 := Lib.hid h2
  have Hl2 := Lib.hid l2
  have Pox := Lib.hid pox
  have Poy := Lib.hid poy
  have Hlx := Lib.hid lx
  have Hly := Lib.hid ly
  have Hp := Lib.hid h
  have Hp' := Lib.hid h'
  have Hob := Lib.hid ob
  have Hnne := Lib.hid nne
  have hlex := pox.le
  have hley := poy.le
  clear p3 p4 pox poy lx ly qc qc' pk pl ph hL1 b1 hold ob och nb1 nb2 nch nne k2 h2 l2 hL2 ql qg1 qg2 h h' hword hx hy
  have hs := ((St.start w).made (.cells #[.int .i64 lev, .slice a len cap, .string hi, .bool la, .int .u64 ri] 25)).made (.cells #[.int .i64 lev', .slice a' len' cap', .string hi', .bool la', .int .u64 ri'] 25)
  rw [World.size_alloc] at hs
  go_enter Try.func6, Try.ntmps6
  go_wp2_with fail
  refine (calls_same hs (Q1.out _)).mono ?_
  clear hs
  rintro e w1 ⟨rfl, hs⟩
  have hs := hs.made (.cells #[.int .i64 d.th, .int .i64 d.sn, .int .i64 d.no, .int .i64 d.ch, .int .i64 d.re, .int .i64 d.fa, .int .u64 d.cl] 27)
  obtain ⟨bc0, hbc0⟩ : ∃ bc0, bc0 = w1.heap.size := ⟨_, rfl⟩
  have kc := hs.k0
  go_wp2_with fail
  rw [← hbc0] at hs kc ⊢
  clear hbc0
  refine (Q2.out _ _ _ hs).mono ?_
  clear hs kc
  rintro e w2 ⟨bm, bc, rfl, hs⟩
  have hs := hs.made (.cells #[.int .i64 d.th, .int .i64 d.sn, .int .i64 d.no, .int .i64 d.ch, .int .i64 d.re, .int .i64 d.fa, .int .u64 d.cl] 30)
  obtain ⟨bl, hbl⟩ : ∃ bl, bl = w2.heap.size := ⟨_, rfl⟩
  go_wp2_with fail
  rw [← hbl] at hs ⊢
  clear hbl
  refine (awake8_st hs).mono ?_
  clear hs
  rintro e w3 ⟨rfl, hs⟩
  go_upto_region 5 with (fail)
  go_cut [12, 13] (fun v12 v13 wx => ∃ (sa : Option Addr) (sc b : Nat) (sa' : Option Addr) (sc' b' : Nat), v12 = .pointer (some ⟨b, 0, none⟩) ∧ v13 = .pointer (some ⟨b', 0, none⟩) ∧
    St (Know.of w) wx (rowC (.slice sa (x).sl.length sc) 132 2 (x).sl.length (slRow (x).sl) :: blk b (.cells #[.int .i64 (x).lev, (.slice sa x.sl.length sc), .string (x).hi, .bool (x).la, .int .u64 (x).ri] 25) :: rowC (.slice sa' (y).sl.length sc') 132 2 (y).sl.length (slRow (y).sl) :: blk b' (.cells #[.int .i64 (y).lev, (.slice sa' y.sl.length sc'), .string (y).hi, .bool (y).la, .int .u64 (y).ri] 25) :: [blk bl (.cells #[.int .i64 d.th, .int .i64 d.sn, .int .i64 d.no, .int .i64 d.ch, .int .i64 d.re, .int .i64 d.fa, .int .u64 d.cl] 30), memC bm bc L0 0, blk bc0 (.cells #[.int .i64 d.th, .int .i64 d.sn, .int .i64 d.no, .int .i64 d.ch, .int .i64 d.re, .int .i64 d.fa, .int .u64 d.cl] 27), blk (w.heap.size + 1) (.cells #[.int .i64 lev', .slice a' len' cap', .string hi', .bool la', .int .u64 ri'] 25), blk w.heap.size (.cells #[.int .i64 lev, .slice a len cap, .string hi, .bool la, .int .u64 ri] 25)]))
  case first =>
    as_aux_lemma =>
    have Hs := Lib.hid hs
    clear hs
    refine region_effects [false, false, true, false, false, true, true, true, true, true] [2, 5, 6, 7, 8, 9] (fun | 8 => [2, 6] | 9 => [5, 7] | _ => [])
      (PgR2 (Know.of w) [blk bl (.cells #[.int .i64 d.th, .int .i64 d.sn, .int .i64 d.no, .int .i64 d.ch, .int .i64 d.re, .int .i64 d.fa, .int .u64 d.cl] 30), memC bm bc L0 0, blk bc0 (.cells #[.int .i64 d.th, .int .i64 d.sn, .int .i64 d.no, .int .i64 d.ch, .int .i64 d.re, .int .i64 d.fa, .int .u64 d.cl] 27), blk (w.heap.size + 1) (.cells #[.int .i64 lev', .slice a' len' cap', .string hi', .bool la', .int .u64 ri'] 25), blk w.heap.size (.cells #[.int .i64 lev, .slice a len cap, .string hi, .bool la, .int .u64 ri] 25)] x y) (fun W => St (Know.of w) W [blk bl (.cells #[.int .i64 d.th, .int .i64 d.sn, .int .i64 d.no, .int .i64 d.ch, .int .i64 d.re, .int .i64 d.fa, .int .u64 d.cl] 30), memC bm bc L0 0, blk bc0 (.cells #[.int .i64 d.th, .int .i64 d.sn, .int .i64 d.no, .int .i64 d.ch, .int .i64 d.re, .int .i64 d.fa, .int .u64 d.cl] 27), blk (w.heap.size + 1) (.cells #[.int .i64 lev', .slice a' len' cap', .string hi', .bool la', .int .u64 ri'] 25), blk w.heap.size (.cells #[.int .i64 lev, .slice a len cap, .string hi, .bool la, .int .u64 ri] 25)]) ?aS (by kernel_rfl) ?hB ?H ?haS ?h0 ?hI ?hR ?hE ?hQ
    case hB => as_aux_lemma => kernel_rfl
    case H =>
      intro W2 hs
      have kc := hs.k2
      have kq := hs.b3.k0
      have kp := hs.b4.k0
      clear hs
      simp only [withM]
      repeat (go_big_quiet_step (fail))
      refine wpQuiet_nil ?_
      rfl
    case haS => rfl
    case h0 => exact PgR2.start Hs.out
    case hI => exact fun ρ W2 h => h.rest
    case hR => exact fun ρ W2 W3 h hb => h.same hb
    case hE =>
      refine ⟨?e2, ?e5, ?e6, ?e7, ?e8, ?e9, trivial⟩
      case e2 =>
        intro o ho ρ W2 h hcl h2 hd2 af haf
        obtain rfl := Option.some.inj ho
        replace haf : af = fillD _ ρ [] _ := haf
        have h8 : ρ 8 = none := hcl.none (by simp) (show 2 ∈ [2, 6] by simp) h2
        obtain ⟨R', hs, hnext⟩ := h.e2 h2 h8
        simp only [fillD] at haf
        subst haf
        go_wp2_with fail
        refine (Qc.out _ _ _ hs (Hp.out.keep (hs.below (Know.Le.refl _)))).mono ?_
        rintro e W3 ⟨va, rfl, hs'⟩
        go_wp2
        exact ⟨rfl, _, rfl, hnext va W3 hs'⟩
      case e5 =>
        intro o ho ρ W2 h hcl h5 hd2 af haf
        obtain rfl := Option.some.inj ho
        replace haf : af = fillD _ ρ [] _ := haf
        have h9 : ρ 9 = none := hcl.none (by simp) (show 5 ∈ [5, 7] by simp) h5
        obtain ⟨R', hs, hnext⟩ := h.e5 h5 h9
        simp only [fillD] at haf
        subst haf
        go_wp2_with fail
        refine (Qc'.out _ _ _ hs (Hp'.out.keep (hs.below (Know.Le.refl _)))).mono ?_
        rintro e W3 ⟨va, rfl, hs'⟩
        go_wp2
        exact ⟨rfl, _, rfl, hnext va W3 hs'⟩
      case e6 =>
        intro o ho ρ W2 h hcl h6 hd2 af haf
        obtain rfl := Option.some.inj ho
        replace haf : af = fillD _ ρ [] _ := haf
        have h8 : ρ 8 = none := hcl.none (by simp) (show 6 ∈ [2, 6] by simp) h6
        simp only [fillD] at haf
        subst haf
        go_wp2
        exact ⟨rfl, _, rfl, h.e6 h6 h8⟩
      case e7 =>
        intro o ho ρ W2 h hcl h7 hd2 af haf
        obtain rfl := Option.some.inj ho
        replace haf : af = fillD _ ρ [] _ := haf
        have h9 : ρ 9 = none := hcl.none (by simp) (show 7 ∈ [5, 7] by simp) h7
        simp only [fillD] at haf
        subst haf
        go_wp2
        exact ⟨rfl, _, rfl, h.e7 h7 h9⟩
      case e8 =>
        intro o ho ρ W2 h hcl h8 hd2 af haf
        obtain rfl := Option.some.inj ho
        replace haf : af = fillD _ ρ [2, 6] _ := haf
        obtain ⟨v2, h2⟩ := Option.isSome_iff_exists.1 (hd2 2 (by show _ ∈ [2, 6]; simp))
        obtain ⟨v6, h6⟩ := Option.isSome_iff_exists.1 (hd2 6 (by show _ ∈ [2, 6]; simp))
        obtain ⟨sa, sc, b, R', rfl, rfl, hs, hnext⟩ := h.e8 h2 h6 h8
        simp only [fillD, h2, h6, Option.getD_some, dstAt, List.getElem?_cons_succ, List.getElem?_cons_zero, Option.bind_some, Option.bind_none, Act.put, List.setIfInBounds_toArray, List.set_cons_zero, List.set_cons_succ] at haf
        subst haf
        have k0 := hs.k0
        have f0 := hs.f0
        have hs := ((((hs.setL 0 (.int .i64 x.lev)).setL 1 (.slice sa x.sl.length sc)).setL 2 (.string x.hi)).setL 3 (.bool x.la)).setL 4 (.int .u64 x.ri)
        simp only [List.set_cons_zero, List.set_cons_succ] at hs
        go_wp2
        exact ⟨rfl, undef, rfl, hnext _ _ hs⟩
      case e9 =>
        intro o ho ρ W2 h hcl h9 hd2 af haf
        obtain rfl := Option.some.inj ho
        replace haf : af = fillD _ ρ [5, 7] _ := haf
        obtain ⟨v5, h5⟩ := Option.isSome_iff_exists.1 (hd2 5 (by show _ ∈ [5, 7]; simp))
        obtain ⟨v7, h7⟩ := Option.isSome_iff_exists.1 (hd2 7 (by show _ ∈ [5, 7]; simp))
        obtain ⟨sa, sc, b, R', rfl, rfl, hs, hnext⟩ := h.e9 h5 h7 h9
        simp only [fillD, h5, h7, Option.getD_some, dstAt, List.getElem?_cons_succ, List.getElem?_cons_zero, Option.bind_some, Option.bind_none, Act.put, List.setIfInBounds_toArray, List.set_cons_zero, List.set_cons_succ] at haf
        subst haf
        have k0 := hs.k0
        have f0 := hs.f0
        have hs := ((((hs.setL 0 (.int .i64 y.lev)).setL 1 (.slice sa y.sl.length sc)).setL 2 (.string y.hi)).setL 3 (.bool y.la)).setL 4 (.int .u64 y.ri)
        simp only [List.set_cons_zero, List.set_cons_succ] at hs
        go_wp2
        exact ⟨rfl, undef, rfl, hnext _ _ hs⟩
    case hQ =>
      intro ρ W2 h hall
      obtain ⟨sa, sc, b, sa', sc', b', h2, h6, h5, h7, ⟨v8, h8⟩, ⟨v9, h9⟩, hs⟩ := h.last hall
      simp only [fillD, h2, h5, h6, h7, h8, h9, Option.getD_some, dstAt, List.getElem?_cons_succ, List.getElem?_cons_zero, Option.bind_some, Option.bind_none, Act.put, List.setIfInBounds_toArray, List.set_cons_zero, List.set_cons_succ]
      go_wp2
      go_meet
      exact ⟨_, _, _, _, _, _, rfl, rfl, hs⟩
  case rest =>
    clear hs Qc Qc' Hp Hp'
    obtain ⟨sa, sc, bx, sa', sc', bY, rfl, rfl, hs⟩ := hcut
    have kc := hs.b6.k0
    have kx := hs.k1
    go_wp2_with fail
    have q := kitPut_st (id := 1) hd.out (by omega) ⟨by rw [Hlx.out]; omega, by rw [Hlx.out]; omega⟩ hlex hs.b5
    rw [← HL1.out] at q
    refine q.mono ?_
    clear hs kc kx q
    rintro e w4 ⟨rfl, hs⟩
    have kc := hs.b6.k0
    go_wp2_with fail
    refine (calls_same hs (Qn.out _)).mono ?_
    clear hs kc
    rintro e w5 ⟨rfl, hs⟩
    go_wp2_with fail
    refine (calls_id hs (Qe0.out _)).mono ?_
    clear hs
    rintro e w6 ⟨rfl, hs⟩
    go_wp2_with fail
    refine (calls_id hs (Ql.out _)).mono ?_
    clear hs
    rintro e w7 ⟨rfl, hs⟩
    go_wp2_with fail
    have q := poke_st (i := d.node 1 0) (c := ⟨old, ⟨#[]⟩, 0⟩) hs
    rw [← HL2.out] at q
    refine q.mono ?_
    clear hs q
    rintro e w8 ⟨rfl, hs⟩
    have kl := hs.b5.k0
    have kx := hs.k2
    have ky := hs.b4.k0
    go_wp2_with fail
    have q := newWrite_st hd.out (id := 1) (word := old) (by omega) hno.out Hob.out Pox.out Poy.out ⟨by rw [Hlx.out]; omega, by rw [Hlx.out]; omega⟩ ⟨by rw [Hly.out]; omega, by rw [Hly.out]; omega⟩ hs.b3.b2
    refine q.mono ?_
    clear hs kl kx ky q
    rintro e w9 ⟨bw, bwr, g, capp, va, mid, ps, rfl, hnew, hps, hs⟩
    have hs : St (Know.of w) w9 (wrC bwr 1 (ltEnd (ltBegin old)) y va g capp ps 0 :: memC bm bc L2 0 :: rowC (.slice (some ⟨g, 0, none⟩) ps.length capp) 178 4 ps.length (ptRow ps) :: blk bw (.cells #[.pointer (some ⟨bwr, 0, none⟩)] 182) :: blk bl (.cells #[.int .i64 d.th, .int .i64 d.sn, .int .i64 d.no, .int .i64 d.ch, .int .i64 d.re, .int .i64 d.fa, .int .u64 d.cl] 30) :: blk bY (.cells #[.int .i64 (y).lev, (.slice sa' y.sl.length sc'), .string (y).hi, .bool (y).la, .int .u64 (y).ri] 25) :: rowC (.slice sa' (y).sl.length sc') 132 2 (y).sl.length (slRow (y).sl) :: []) := hs.b3.tail.b3.tail.b5.tail.b3.b5.b6.b5.b5.b6.b6.left (F := [_, _, _])
    have hlenp : ps.length = mid.length + 2 := by rw [hps]; simp
    have hmid : mid.length ≤ 40 := by
      have h1 := hnew.1.length_le
      have h2 : (pgPts d 1 y).length = y.sl.length + 3 := by simp [pgPts, slPts_length]
      omega
    have HM := Lib.hid (fun (k : Nat) (hk : 1 ≤ k) (hk2 : k ≤ mid.length + 1) => stage_mid (c0 := ⟨ltBegin old, ⟨#[]⟩, 0⟩) (c1 := ⟨ltEnd (ltBegin old), ⟨#[]⟩, 0⟩) hd.out (id := 1) (by omega) hno.out hnew.1 Hl2.out hley hk hk2)
    have hE := stage_last (c0 := ⟨ltBegin old, ⟨#[]⟩, 0⟩) (c1 := ⟨ltEnd (ltBegin old), ⟨#[]⟩, 0⟩) hd.out (id := 1) (by omega) hno.out (mid := mid) Hl2.out
    have hP : pgOf d 1 (putAll L2 ps) = y := by
      rw [hps]
      exact pgOf_at ((stage_end hd.out (by omega) hno.out H2.out hnew Hl2.out hley).page hd.out (by omega) hno.out hley ⟨by rw [Hly.out]; omega, by rw [Hly.out]; omega⟩ Poy.out.la)
    have hOk : ∀ k, CelsOk (putAll L2 (ps.take k)) := fun k => putAll_ok _ _ K2.out (fun p hp => by
      have hp := List.mem_of_mem_take hp
      rw [hps] at hp
      rcases List.mem_append.1 hp with hp | hp
      · rcases List.mem_cons.1 hp with rfl | hp
        · exact ltBegin_bd Hob.out.1 Hob.out.2
        · exact wf_u64 (pgPts_ok hd.out (by omega) hno.out Poy.out ⟨by rw [Hly.out]; omega, by rw [Hly.out]; omega⟩ p (hnew.1.subset hp)).n
      · simp only [List.mem_singleton] at hp
        subst hp
        exact ltEnd_bd _)
    rw [← hps] at hE
    have HE := Lib.hid hE
    have HP := Lib.hid hP
    have HOk := Lib.hid hOk
    have Hps := Lib.hid hps
    clear hE hP hOk hps hnew H2 Hl2 K2 Pox Poy Hlx HL1 HL2 Q1 Q2 Qn Qe0 Ql hlex Hly Hob
    generalize d.node 1 0 = j0 at *
    have hps2 : 2 ≤ ps.length := by omega
    have hps42 : ps.length ≤ 42 := by omega
    have Hlen := Lib.hid hlenp
    clear hlenp hmid
    go_wp2
    go_loopw [17, 18] (fun v17 v18 wr => ∃ (k acc : Nat), k ≤ ps.length ∧ v17 = .bool (decide (k = ps.length)) ∧ v18 = .int .i64 k ∧ acc ≤ k ∧ St (Know.of w) wr (wrC bwr 1 (ltEnd (ltBegin old)) y va g capp ps k :: memC bm bc (putAll L2 (ps.take k)) acc :: rowC (.slice (some ⟨g, 0, none⟩) ps.length capp) 178 4 ps.length (ptRow ps) :: blk bw (.cells #[.pointer (some ⟨bwr, 0, none⟩)] 182) :: blk bl (.cells #[.int .i64 d.th, .int .i64 d.sn, .int .i64 d.no, .int .i64 d.ch, .int .i64 d.re, .int .i64 d.fa, .int .u64 d.cl] 30) :: blk bY (.cells #[.int .i64 (y).lev, (.slice sa' y.sl.length sc'), .string (y).hi, .bool (y).la, .int .u64 (y).ri] 25) :: rowC (.slice sa' (y).sl.length sc') 132 2 (y).sl.length (slRow (y).sl) :: [])) (fun _ v _ => 100 - (intOf v).toNat)
    case atStart => exact ⟨0, 0, by omega, by rw [decide_eq_false (by omega)], rfl, by omega, hs⟩
    case round =>
      clear hs
      obtain ⟨k, acc, hk, rfl, rfl, hacc, hs⟩ := hrel
      by_cases hlt : k < ps.length
      · rw [decide_eq_false (show ¬ k = ps.length by omega)]
        obtain ⟨p, hp⟩ : ∃ p, ps[k]? = some p := ⟨_, List.getElem?_eq_getElem hlt⟩
        have q := writeStep_st (L := putAll L2 (ps.take k)) hp (show acc ≤ 1000000000000 by omega) hs
        rw [← putAll_take hp] at q
        have hOk := HOk.out (k + 1)
        have hM := HM.out (k + 1) (by omega)
        rw [← Hps.out] at hM
        have hE : k + 1 = ps.length → getC (putAll L2 (ps.take (k + 1))) j0 = ⟨ltEnd (ltBegin old), ⟨#[]⟩, 0⟩ := fun e => by rw [e, List.take_length]; exact HE.out
        have hP : k + 1 = ps.length → pgOf d 1 (putAll L2 (ps.take (k + 1))) = y := fun e => by rw [e, List.take_length]; exact HP.out
        obtain ⟨Lk, hLk⟩ : ∃ Lk, Lk = putAll L2 (ps.take (k + 1)) := ⟨_, rfl⟩
        rw [← hLk] at q hOk hM hE hP
        have qk := fun wz F (hz : St (Know.of w) wz (memC bm bc Lk (acc + 1) :: F)) => peek_st2 hd.out (id := 1) (by omega) hno.out hOk hz
        obtain ⟨pgk, hpgk⟩ : ∃ pgk, pgk = pgOf d 1 Lk := ⟨_, rfl⟩
        rw [← hpgk] at hP qk
        have Qk := Lib.hid qk
        have HLk := Lib.hid hLk
        have Q := Lib.hid q
        have HkM := Lib.hid (fun hx : k + 1 < ps.length => hM (by have := Hlen.out; omega))
        have HkE := Lib.hid hE
        have HkP := Lib.hid hP
        have HkO := Lib.hid hOk
        clear q hs hp hLk hM hE hP hOk hk qk hpgk
        go_wp2_with fail
        refine (Q.out).mono ?_
        clear Q
        rintro e w10 ⟨rfl, hs⟩
        have hs := hs.b4.b2.b6.b6.b3.b3
        go_upto_region 16 with (fail)
        go_cut [19, 20] (fun v19 v20 wx => ∃ (now : Int) (ra : Option Addr) (rc b : Nat), now = (getC Lk j0).n ∧ v19 = .int .u64 now ∧ v20 = .pointer (some ⟨b, 0, none⟩) ∧
          St (Know.of w) wx (rowC (.slice ra (pgk).sl.length rc) 132 2 (pgk).sl.length (slRow (pgk).sl) :: blk b (.cells #[.int .i64 (pgk).lev, (.slice ra pgk.sl.length rc), .string (pgk).hi, .bool (pgk).la, .int .u64 (pgk).ri] 25) :: [memC bm bc Lk (acc + 1), blk bl (.cells #[.int .i64 d.th, .int .i64 d.sn, .int .i64 d.no, .int .i64 d.ch, .int .i64 d.re, .int .i64 d.fa, .int .u64 d.cl] 30), blk bY (.cells #[.int .i64 (y).lev, (.slice sa' y.sl.length sc'), .string (y).hi, .bool (y).la, .int .u64 (y).ri] 25), rowC (.slice sa' (y).sl.length sc') 132 2 (y).sl.length (slRow (y).sl), wrC bwr 1 (ltEnd (ltBegin old)) y va g capp ps (k + 1), rowC (.slice (some ⟨g, 0, none⟩) ps.length capp) 178 4 ps.length (ptRow ps), blk bw (.cells #[.pointer (some ⟨bwr, 0, none⟩)] 182)]))
        case first =>
          as_aux_lemma =>
          have Hs := Lib.hid hs
          clear hs
          refine region_effects [false, false, false, false, false, false, true, true, false, true] [6, 7, 9] (fun | 9 => [6, 7] | _ => [])
            (PgR (Know.of w) [memC bm bc Lk (acc + 1), blk bl (.cells #[.int .i64 d.th, .int .i64 d.sn, .int .i64 d.no, .int .i64 d.ch, .int .i64 d.re, .int .i64 d.fa, .int .u64 d.cl] 30), blk bY (.cells #[.int .i64 (y).lev, (.slice sa' y.sl.length sc'), .string (y).hi, .bool (y).la, .int .u64 (y).ri] 25), rowC (.slice sa' (y).sl.length sc') 132 2 (y).sl.length (slRow (y).sl), wrC bwr 1 (ltEnd (ltBegin old)) y va g capp ps (k + 1), rowC (.slice (some ⟨g, 0, none⟩) ps.length capp) 178 4 ps.length (ptRow ps), blk bw (.cells #[.pointer (some ⟨bwr, 0, none⟩)] 182)] pgk) (fun W => St (Know.of w) W [memC bm bc Lk (acc + 1), blk bl (.cells #[.int .i64 d.th, .int .i64 d.sn, .int .i64 d.no, .int .i64 d.ch, .int .i64 d.re, .int .i64 d.fa, .int .u64 d.cl] 30), blk bY (.cells #[.int .i64 (y).lev, (.slice sa' y.sl.length sc'), .string (y).hi, .bool (y).la, .int .u64 (y).ri] 25), rowC (.slice sa' (y).sl.length sc') 132 2 (y).sl.length (slRow (y).sl), wrC bwr 1 (ltEnd (ltBegin old)) y va g capp ps (k + 1), rowC (.slice (some ⟨g, 0, none⟩) ps.length capp) 178 4 ps.length (ptRow ps), blk bw (.cells #[.pointer (some ⟨bwr, 0, none⟩)] 182)]) ?aS2 (by kernel_rfl) ?hB2 ?H2 ?haS2 ?h02 ?hI2 ?hR2 ?hE2 ?hQ2
          case hB2 => as_aux_lemma => kernel_rfl
          case H2 =>
            intro W2 hs
            have kl := hs.k1
            have Qy := Lib.hid (fun wz (hy : ∃ x : Ext, wz = over W2 x) => peek_any wz bm bc Lk _ j0 ((hs.same (Pure.below hy)).mem))
            clear hs
            simp only [withM]
            repeat (go_big_quiet_step ((go_at_call 50; exact pure_of (Qy.out _ ⟨_, rfl⟩))))
            refine wpQuiet_nil ?_
            rfl
          case haS2 => rfl
          case h02 => exact PgR.start Hs.out
          case hI2 => exact fun ρ W2 h => h.rest
          case hR2 => exact fun ρ W2 W3 h hb => h.same hb
          case hE2 =>
            refine ⟨?e62, ?e72, ?e92, trivial⟩
            case e62 =>
              intro o ho ρ W2 h hcl h6 hd2 af haf
              obtain rfl := Option.some.inj ho
              replace haf : af = fillD _ ρ [] _ := haf
              have h9 : ρ 9 = none := hcl.none (by simp) (show 6 ∈ [6, 7] by simp) h6
              obtain ⟨o7, hs, hnext⟩ := h.e6 h6 h9
              simp only [fillD] at haf
              subst haf
              go_wp2_with fail
              refine (Qk.out _ _ hs.b1).mono ?_
              rintro e W3 ⟨va', rfl, hs'⟩
              go_wp2
              exact ⟨rfl, _, rfl, hnext va' W3 hs'.b2.b1⟩
            case e72 =>
              intro o ho ρ W2 h hcl h7 hd2 af haf
              obtain rfl := Option.some.inj ho
              replace haf : af = fillD _ ρ [] _ := haf
              have h9 : ρ 9 = none := hcl.none (by simp) (show 7 ∈ [6, 7] by simp) h7
              simp only [fillD] at haf
              subst haf
              go_wp2
              exact ⟨rfl, _, rfl, h.e7 h7 h9⟩
            case e92 =>
              intro o ho ρ W2 h hcl h9 hd2 af haf
              obtain rfl := Option.some.inj ho
              replace haf : af = fillD _ ρ [6, 7] _ := haf
              obtain ⟨v6, h6⟩ := Option.isSome_iff_exists.1 (hd2 6 (by show _ ∈ [6, 7]; simp))
              obtain ⟨v7, h7⟩ := Option.isSome_iff_exists.1 (hd2 7 (by show _ ∈ [6, 7]; simp))
              obtain ⟨sa, sc, b, R', rfl, rfl, hs, hnext⟩ := h.e9 h6 h7 h9
              simp only [fillD, h6, h7, Option.getD_some, dstAt, List.getElem?_cons_succ, List.getElem?_cons_zero, Option.bind_some, Option.bind_none, Act.put, List.setIfInBounds_toArray, List.set_cons_zero, List.set_cons_succ] at haf
              subst haf
              have k0 := hs.k0
              have f0 := hs.f0
              have hs := ((((hs.setL 0 (.int .i64 pgk.lev)).setL 1 (.slice sa pgk.sl.length sc)).setL 2 (.string pgk.hi)).setL 3 (.bool pgk.la)).setL 4 (.int .u64 pgk.ri)
              simp only [List.set_cons_zero, List.set_cons_succ] at hs
              go_wp2
              exact ⟨rfl, undef, rfl, hnext _ _ hs⟩
          case hQ2 =>
            intro ρ W2 h hall
            obtain ⟨sa, sc, b, h6, h7, ⟨v9, h9⟩, hs⟩ := h.last hall
            simp only [fillD, h6, h7, h9, Option.getD_some, dstAt, List.getElem?_cons_succ, List.getElem?_cons_zero, Option.bind_some, Option.bind_none, Act.put, List.setIfInBounds_toArray, List.set_cons_zero, List.set_cons_succ]
            go_wp2
            go_meet
            exact ⟨_, _, _, _, rfl, rfl, rfl, hs⟩
        case rest =>
          clear hs Qk HkO HOk HM HE HP
          obtain ⟨now, ra, rc, bz, hnow, rfl, rfl, hs⟩ := hcut
          by_cases hlast : k + 1 = ps.length
          · rw [decide_eq_true hlast]
            have hpy := HkP.out hlast
            have hE := HkE.out hlast
            rw [hE] at hnow
            have hnow' : now = ltEnd (ltBegin old) := hnow
            subst hnow' hpy
            have Hlast := Lib.hid hlast
            have hne := Hnne.out
            clear hE hnow HkE HkM HkP hlast
            have kz := hs.k1
            have ky := hs.b4.k0
            have sz := hs.row_slots (by omega)
            have sy := hs.b5.row_slots (by omega)
            go_wp2_with fail
            refine (Qg2.out _).mono ?_
            rintro e w12 ⟨rfl, rfl⟩
            go_wp2_with fail
            refine (Qb.out _).mono ?_
            rintro e w13 ⟨rfl, rfl⟩
            go_wp2_with fail
            refine (Qe.out _).mono ?_
            rintro e w14 ⟨rfl, rfl⟩
            go_wp2_with fail
            refine (calls_same hs (samePage_any _ sz sy)).mono ?_
            clear hs kz ky sz sy
            rintro e w15 ⟨rfl, hs⟩
            go_wp2
            go_roundw
            case rel => exact ⟨k + 1, acc + 1, by have := Hlast.out; omega, by rw [decide_eq_true Hlast.out], by go_num, by omega, by rw [← HLk.out]; exact hs.tail.tail.b3.b3.b3.b6.b6.b5.b6⟩
            case measure => simp [intOf]; omega
          · rw [decide_eq_false hlast]
            have hM := HkM.out (by omega)
            rw [hM] at hnow
            have hnow' : now = ltBegin old := hnow
            subst hnow'
            have Hlast := Lib.hid hlast
            clear hM hnow HkE HkM HkP hlast
            go_wp2_with fail
            refine (calls_id hs (Qg1.out _)).mono ?_
            clear hs
            rintro e w12 ⟨rfl, hs⟩
            go_wp2_with fail
            refine (calls_id hs (Qb.out _)).mono ?_
            clear hs
            rintro e w13 ⟨rfl, hs⟩
            go_wp2
            go_roundw
            case rel => exact ⟨k + 1, acc + 1, by omega, by rw [decide_eq_false Hlast.out], by go_num, by omega, by rw [← HLk.out]; exact hs.tail.tail.b3.b3.b3.b6.b6.b5.b6⟩
            case measure => simp [intOf]; omega
      · obtain rfl : k = ps.length := by omega
        rw [decide_eq_true (show ps.length = ps.length from rfl)]
        go_wp2
        go_ret
        exact ⟨rfl, hs.below (Know.Le.refl _)⟩
end Go.Proofs.Ytfgjanponijkhaa
