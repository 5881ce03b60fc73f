
/- The walk of LeaflockExcludes. -/
import Derived.Test.YtlpdhhhgckpcfaaGreatExOn
import Derived.Test.YtlpdhhhgckpcfaaGreatAw12
import Derived.Test.YtlpdhhhgckpcfaaGreatAppF
import Derived.Test.YtlpdhhhgckpcfaaGreatSameV
namespace Go.Proofs.YtlpdhhhgckpcfaaGreat
open Go.RowKit
set_option maxRecDepth 100000
theorem infoLockP : (Tryz.prog.info? 37).map (fun i => (i.zero, i.size, i.bytes)) = some (some (.pointer none), 1, 8) := by kernel_rfl
theorem infoInt12 : (Tryz.prog.info? 3).map (fun i => (i.zero, i.size, i.bytes)) = some (some (.int .i64 0), 1, 8) := by kernel_rfl
/-- Keys, then Plant. -/
def Pt12 (w0 : World) (d : Cfg) (hide : Bool) (bm bc b0 b1 : Nat) (ρ : Nat → Option Value) (W : World) : Prop :=
  (ρ 3 = none ∧ ρ 6 = none ∧ St (Know.of w0) W (memC bm bc (startL d) 0 :: blk b1 (.cells #[.int .i64 (d).th, .int .i64 (d).sn, .int .i64 (d).no, .int .i64 (d).ch, .int .i64 (d).re, .int .i64 (d).fa, .int .u64 (d).cl] 29) :: blk b0 (.cells #[.int .i64 (d).th, .int .i64 (d).sn, .int .i64 (d).no, .int .i64 (d).ch, .int .i64 (d).re, .int .i64 (d).fa, .int .u64 (d).cl] 26) :: [])) ∨
  (∃ (a : Option Addr) (c : Nat) (ks : List ByteArray), ρ 3 = some (.slice a ks.length c) ∧ ρ 6 = none ∧ Hid (KeysOk 20 ks) ∧ St (Know.of w0) W (memC bm bc (startL d) 0 :: rowC (.slice a (ks).length c) 9 1 (ks).length (stRow ks) :: blk b1 (.cells #[.int .i64 (d).th, .int .i64 (d).sn, .int .i64 (d).no, .int .i64 (d).ch, .int .i64 (d).re, .int .i64 (d).fa, .int .u64 (d).cl] 29) :: blk b0 (.cells #[.int .i64 (d).th, .int .i64 (d).sn, .int .i64 (d).no, .int .i64 (d).ch, .int .i64 (d).re, .int .i64 (d).fa, .int .u64 (d).cl] 26) :: [])) ∨
  (∃ (v3 v6 : Value) (ks : List ByteArray) (t : List (List Nd)) (L : List Cel), ρ 3 = some v3 ∧ ρ 6 = some v6 ∧ Hid (TreeX d ks hide L t ∧ KeysOk 20 ks) ∧ St (Know.of w0) W (memC bm bc L 0 :: blk b1 (.cells #[.int .i64 (d).th, .int .i64 (d).sn, .int .i64 (d).no, .int .i64 (d).ch, .int .i64 (d).re, .int .i64 (d).fa, .int .u64 (d).cl] 29) :: blk b0 (.cells #[.int .i64 (d).th, .int .i64 (d).sn, .int .i64 (d).no, .int .i64 (d).ch, .int .i64 (d).re, .int .i64 (d).fa, .int .u64 (d).cl] 26) :: []))
theorem Pt12.rest {w0 : World} {d : Cfg} {hide : Bool} {bm bc b0 b1 : Nat} {ρ : Nat → Option Value} {W : World} (h : Pt12 w0 d hide bm bc b0 b1 ρ W) : St (Know.of w0) W (blk b1 (.cells #[.int .i64 (d).th, .int .i64 (d).sn, .int .i64 (d).no, .int .i64 (d).ch, .int .i64 (d).re, .int .i64 (d).fa, .int .u64 (d).cl] 29) :: blk b0 (.cells #[.int .i64 (d).th, .int .i64 (d).sn, .int .i64 (d).no, .int .i64 (d).ch, .int .i64 (d).re, .int .i64 (d).fa, .int .u64 (d).cl] 26) :: []) := by
  rcases h with ⟨_, _, hs⟩ | ⟨_, _, _, _, _, _, hs⟩ | ⟨_, _, _, _, _, _, _, _, hs⟩
  · exact hs.tail
  · exact hs.tail.tail
  · exact hs.tail
theorem Pt12.same {w0 : World} {d : Cfg} {hide : Bool} {bm bc b0 b1 : Nat} {ρ : Nat → Option Value} {W W' : World} (h : Pt12 w0 d hide bm bc b0 b1 ρ W) (hb : Below W.heap.size W W') : Pt12 w0 d hide bm bc b0 b1 ρ W' := by
  rcases h with ⟨a, b, hs⟩ | ⟨a, c, ks, x, y, z, hs⟩ | ⟨a, c, ks, t, L, x, y, z, hs⟩
  · exact .inl ⟨a, b, hs.same hb⟩
  · exact .inr (.inl ⟨a, c, ks, x, y, z, hs.same hb⟩)
  · exact .inr (.inr ⟨a, c, ks, t, L, x, y, z, hs.same hb⟩)
/-- Held of two machines, and their numbers. -/
def HeΦ (hj hi : InH) (e : Nat) (_ρ : Nat → Option Value) (v : Value) (cs : List Comp) : Prop := match e with
  | 15 => ∃ (a : Option Addr) (c : Nat), v = (.agg #[.int .u64 (hj).id, .int .u64 (hj).word, .int .i64 (hj).pg.lev, (.slice a hj.pg.sl.length c), .string (hj).pg.hi, .bool (hj).pg.la, .int .u64 (hj).pg.ri]) ∧ cs = [slC (.slice a hj.pg.sl.length c) hj.pg]
  | 16 => v = .int .u64 hj.id ∧ cs = []
  | 21 => ∃ (a : Option Addr) (c : Nat), v = (.agg #[.int .u64 (hi).id, .int .u64 (hi).word, .int .i64 (hi).pg.lev, (.slice a hi.pg.sl.length c), .string (hi).pg.hi, .bool (hi).pg.la, .int .u64 (hi).pg.ri]) ∧ cs = [slC (.slice a hi.pg.sl.length c) hi.pg]
  | 22 => v = .int .u64 hi.id ∧ cs = []
  | _ => False
theorem HeΦ.mono {hj hi : InH} : Mono [15, 16, 21, 22] (HeΦ hj hi) := by
  intro e ρ v cs k u he hk h
  exact h
/-- NewRelease of what a machine holds. -/
def ReΦ (h : InH) (i : Int) (e : Nat) (ρ : Nat → Option Value) (v : Value) (cs : List Comp) : Prop := match e with
  | 5 => ∃ (a : Option Addr) (c : Nat), v = (.agg #[.int .u64 (h).id, .int .u64 (h).word, .int .i64 (h).pg.lev, (.slice a h.pg.sl.length c), .string (h).pg.hi, .bool (h).pg.la, .int .u64 (h).pg.ri]) ∧ cs = [slC (.slice a h.pg.sl.length c) h.pg]
  | 6 => v = .int .u64 h.id ∧ cs = []
  | 12 => ∃ (a : Option Addr) (c : Nat), v = (.agg #[.int .u64 (h).id, .int .u64 (h).word, .int .i64 (h).pg.lev, (.slice a h.pg.sl.length c), .string (h).pg.hi, .bool (h).pg.la, .int .u64 (h).pg.ri]) ∧ cs = [slC (.slice a h.pg.sl.length c) h.pg]
  | 13 => v = .int .u64 h.word ∧ cs = []
  | 14 => ∃ br bi bw : Nat, v = (.pointer (some ⟨br, 0, none⟩)) ∧ cs = relL br bi bw i h.word 0
  | 15 => ∃ br : Nat, v = (.pointer (some ⟨br, 0, none⟩)) ∧ cs = [] ∧ ρ 14 = some (.pointer (some ⟨br, 0, none⟩))
  | _ => False
theorem reUpd {ρ : Nat → Option Value} {k j : Nat} {u v : Value} (hk : ρ k = none) (hj : ρ j = some v) : upd ρ k u j = some v := by
  unfold upd
  rw [if_neg (fun e => by rw [e, hk] at hj; cases hj)]
  exact hj
theorem ReΦ.mono {h : InH} {i : Int} : Mono [5, 6, 12, 13, 14, 15] (ReΦ h i) := by
  intro e ρ v cs k u he hk h
  simp only [List.mem_cons, List.not_mem_nil, or_false] at he
  rcases he with rfl | rfl | rfl | rfl | rfl | rfl
  case inr.inr.inr.inr.inr =>
    obtain ⟨a, h1, h2, h3⟩ := h
    exact ⟨a, h1, h2, reUpd hk h3⟩
  all_goals exact h
set_option maxHeartbeats 16000000 in
theorem leaflockExcludes_walk (a : Option Addr) (len cap : Nat) (f : Nat → ByteArray) (fanout sh : Int) (hide : Bool) (a2 : Option Addr) (len2 cap2 : Nat) (f2 : Nat → ByteArray) (qa : Option Addr) (lp qcap : Nat) (P : Nat → Int) (hsh : 0 ≤ sh ∧ sh < 18446744073709551616) (w : World) (hz : StrsIn w a len f) (hz2 : StrsIn w a2 len2 f2) (hq : RowIn .u8 w qa lp P) :
    Calls Tryz.prog 3 #[.slice a len cap, .int .i64 fanout, .int .u64 sh, .bool hide, .slice a2 len2 cap2, .slice qa lp qcap] w fun e w' => e = .returned (.bool true) ∧ Below w.heap.size w w' := by
  obtain ⟨d, hd, hfa, hno, hch, Q1, Q2⟩ : ∃ d : Cfg, Hid d.Ok ∧ Hid (d.fa = 4 + fanout % 3) ∧ Hid (100 ≤ d.no) ∧ Hid (d.ch = 100) ∧ Hid (∀ w, Calls Tryz.prog 12 #[.int .i64 1, .int .i64 fanout] w fun e w' => e = .returned (.agg #[.int .i64 d.th, .int .i64 d.sn, .int .i64 d.no, .int .i64 d.ch, .int .i64 d.re, .int .i64 d.fa, .int .u64 d.cl]) ∧ Below w.heap.size w w') ∧ Hid (∀ w K cs, St K w cs → Calls Tryz.prog 13 #[.agg #[.int .i64 d.th, .int .i64 d.sn, .int .i64 d.no, .int .i64 d.ch, .int .i64 d.re, .int .i64 d.fa, .int .u64 d.cl]] w fun e w'' => ∃ bm bc, e = .returned (.tuple #[.agg #[.int .i64 d.th, .int .i64 d.sn, .int .i64 d.no, .int .i64 d.ch, .int .i64 d.re, .int .i64 d.fa, .int .u64 d.cl], (.pointer (some ⟨bm, 0, none⟩))]) ∧ St K w'' (memC bm bc (startL d) 0 :: cs)) :=
    ⟨kitC 1 (4 + fanout % 3) 1000, Lib.hid (kit8_ok fanout), Lib.hid rfl, Lib.hid (by simp [kitC]), Lib.hid rfl, Lib.hid (fun w => kitConfig_any 1 fanout w), Lib.hid (fun w K cs hs => kitMemory_st (kit8_ok fanout) hs)⟩
  have Hz := Lib.hid hz
  have Hz2 := Lib.hid hz2
  have Hq := Lib.hid hq
  have hlp := hq.1
  have hl2 := hz2.1
  simp only [maxLen] at hlp hl2
  clear hz hz2 hq
  have QA := Lib.hid (fun (W : World) (cs : List Comp) (h : St (Know.of w) W cs) => awake12_st h)
  have hs := St.start w
  go_enter Tryz.func3, Tryz.ntmps3
  go_wp2_with fail
  refine (calls_same hs (Q1.out _)).mono ?_
  clear hs
  rintro e w1 ⟨rfl, hs⟩
  have hs := hs.made (.cells #[.int .i64 (d).th, .int .i64 (d).sn, .int .i64 (d).no, .int .i64 (d).ch, .int .i64 (d).re, .int .i64 (d).fa, .int .u64 (d).cl] 26)
  obtain ⟨b0, hb0⟩ : ∃ b, b = w1.heap.size := ⟨_, rfl⟩
  have kc := hs.k0
  go_wp2_with fail
  rw [← hb0] at hs kc ⊢
  clear hb0
  refine (Q2.out _ _ _ hs).mono ?_
  clear hs kc
  rintro e w2 ⟨bm, bc, rfl, hs⟩
  have hs := hs.made (.cells #[.int .i64 (d).th, .int .i64 (d).sn, .int .i64 (d).no, .int .i64 (d).ch, .int .i64 (d).re, .int .i64 (d).fa, .int .u64 (d).cl] 29)
  obtain ⟨b1, hb1⟩ : ∃ b, b = w2.heap.size := ⟨_, rfl⟩
  rw [← hb1] at hs
  go_upto_region 3 with (fail)
  rw [← hb1]
  clear hb1
  refine wp_ck hs ?_
  clear hs
  intro w3 hs
  have hs : St (Know.of w) w3 (memC bm bc (startL d) 0 :: blk b1 (.cells #[.int .i64 (d).th, .int .i64 (d).sn, .int .i64 (d).no, .int .i64 (d).ch, .int .i64 (d).re, .int .i64 (d).fa, .int .u64 (d).cl] 29) :: blk b0 (.cells #[.int .i64 (d).th, .int .i64 (d).sn, .int .i64 (d).no, .int .i64 (d).ch, .int .i64 (d).re, .int .i64 (d).fa, .int .u64 (d).cl] 26) :: []) := hs.b1
  go_cut [16] from 999 to 0 (fun v wx => ∃ n : Nat, v = .int .i64 n ∧ n ≤ 4 ∧ n ≤ len2 ∧ St (Know.of w) wx (memC bm bc (startL d) 0 :: blk b1 (.cells #[.int .i64 (d).th, .int .i64 (d).sn, .int .i64 (d).no, .int .i64 (d).ch, .int .i64 (d).re, .int .i64 (d).fa, .int .u64 (d).cl] 29) :: blk b0 (.cells #[.int .i64 (d).th, .int .i64 (d).sn, .int .i64 (d).no, .int .i64 (d).ch, .int .i64 (d).re, .int .i64 (d).fa, .int .u64 (d).cl] 26) :: []))
  case first =>
    as_aux_lemma =>
    by_cases h4 : (len2 : Int) ≤ 4
    · have h5 : len2 ≤ 4 := by omega
      go_wp2
      go_meet
      exact ⟨len2, rfl, h5, Nat.le_refl _, hs⟩
    · have h5 : 4 ≤ len2 := by omega
      go_wp2
      go_meet
      exact ⟨4, rfl, Nat.le_refl _, h5, hs⟩
  case rest =>
  clear hs
  obtain ⟨n, rfl, hn4, hn2, hs⟩ := hcut
  apply_assumption
  go_upto_region 4 with (fail)
  go_cut [49] from 32 to 50 (fun v wx => ∃ b : Bool, v = .bool b ∧ Hid (b = false → 2 ≤ n ∧ lp ≤ 300) ∧ St (Know.of w) wx (memC bm bc (startL d) 0 :: blk b1 (.cells #[.int .i64 (d).th, .int .i64 (d).sn, .int .i64 (d).no, .int .i64 (d).ch, .int .i64 (d).re, .int .i64 (d).fa, .int .u64 (d).cl] 29) :: blk b0 (.cells #[.int .i64 (d).th, .int .i64 (d).sn, .int .i64 (d).no, .int .i64 (d).ch, .int .i64 (d).re, .int .i64 (d).fa, .int .u64 (d).cl] 26) :: []))
  case first =>
    go_wp2_with fail
    refine (QA.out _ _ hs).mono ?_
    clear hs
    rintro e w4 ⟨rfl, hs⟩
    by_cases h2 : (n : Int) < 2
    · go_wp2
      go_meet
      exact ⟨true, rfl, Lib.hid (fun h => by cases h), hs⟩
    · go_wp2
      go_meet
      exact ⟨_, rfl, Lib.hid (fun h => by simp at h; omega), hs⟩
  case rest =>
  clear hs
  obtain ⟨bad, rfl, Hbad, hs⟩ := hcut
  apply_assumption
  cases bad with
  | true =>
    go_wp2_with fail
    refine (QA.out _ _ hs).mono ?_
    clear hs
    rintro e w4 ⟨rfl, hs⟩
    go_wp2
    go_ret
    exact ⟨rfl, hs.below (Know.Le.refl _)⟩
  | false =>
  obtain ⟨h2, hlp2⟩ := Hbad.out rfl
  clear Hbad hlp QA
  go_upto_region 6 with (fail)
  go_cut [61] from 55 to 62 (fun _ wx => ∃ (ks : List ByteArray) (t : List (List Nd)) (L : List Cel), Hid (TreeX d ks hide L t ∧ KeysOk 20 ks) ∧ St (Know.of w) wx (memC bm bc L 0 :: blk b1 (.cells #[.int .i64 (d).th, .int .i64 (d).sn, .int .i64 (d).no, .int .i64 (d).ch, .int .i64 (d).re, .int .i64 (d).fa, .int .u64 (d).cl] 29) :: blk b0 (.cells #[.int .i64 (d).th, .int .i64 (d).sn, .int .i64 (d).no, .int .i64 (d).ch, .int .i64 (d).re, .int .i64 (d).fa, .int .u64 (d).cl] 26) :: []))
  case first =>
    as_aux_lemma =>
    have Hs := Lib.hid hs
    clear hs
    refine region_effects [false, false, false, true, false, false, true] [3, 6] (fun | 6 => [3] | _ => []) (Pt12 w d hide bm bc b0 b1) (fun W => St (Know.of w) W (blk b1 (.cells #[.int .i64 (d).th, .int .i64 (d).sn, .int .i64 (d).no, .int .i64 (d).ch, .int .i64 (d).re, .int .i64 (d).fa, .int .u64 (d).cl] 29) :: blk b0 (.cells #[.int .i64 (d).th, .int .i64 (d).sn, .int .i64 (d).no, .int .i64 (d).ch, .int .i64 (d).re, .int .i64 (d).fa, .int .u64 (d).cl] 26) :: [])) ?aS (by kernel_rfl) ?hB ?H ?haS ?h0 ?hI ?hR ?hE ?hQ
    case hB => as_aux_lemma => kernel_rfl
    case H =>
      intro W2 hs
      have kc := hs.k1
      clear hs
      simp only [withM]
      repeat (go_big_quiet_step (fail))
      refine wpQuiet_nil ?_
      rfl
    case haS => rfl
    case h0 => exact .inl ⟨rfl, rfl, Hs.out⟩
    case hI => exact fun ρ W2 h => h.rest
    case hR => exact fun ρ W2 W3 h hb => h.same hb
    case hE =>
      refine ⟨?e3, ?e6, trivial⟩
      case e3 =>
        intro o ho ρ W2 h hcl h3 hd2 af haf
        obtain rfl := Option.some.inj ho
        replace haf : af = fillD _ ρ [] _ := haf
        simp only [fillD] at haf
        subst haf
        rcases h with ⟨_, h6, hs⟩ | ⟨_, _, _, e3, _⟩ | ⟨_, _, _, _, _, e3, _⟩
        case inr.inl => rw [h3] at e3; cases e3
        case inr.inr => rw [h3] at e3; cases e3
        have q := keys_st (a := a) (len := len) (cap := cap) (f := f) (most := 20) Hz.out (by omega) hs
        have Q := Lib.hid q
        have H6 := Lib.hid h6
        clear q hs hcl hd2 h3 h6
        go_wp2_with fail
        refine (Q.out).mono ?_
        clear Q
        rintro e W3 ⟨v, ks, rfl, HK, hs⟩
        obtain ⟨a8, c8, rfl, _, _⟩ := hs.row_read
        have Hs3 := Lib.hid hs.b1
        clear hs
        go_wp2
        exact ⟨rfl, _, rfl, .inr (.inl ⟨a8, c8, ks, by simp [upd], by simp [upd]; exact H6.out, HK, Hs3.out⟩)⟩
      case e6 =>
        intro o ho ρ W2 h hcl h6 hd2 af haf
        obtain rfl := Option.some.inj ho
        replace haf : af = fillD _ ρ [3] _ := haf
        rcases h with ⟨e3, _⟩ | ⟨a8, c8, ks, e3, _, HK, hs⟩ | ⟨_, _, _, _, _, _, e6, _⟩
        case inl =>
          have := hd2 3 (by show _ ∈ [3]; simp)
          rw [e3] at this; cases this
        case inr.inr => rw [h6] at e6; cases e6
        simp only [fillD, e3, Option.getD_some, dstAt, List.getElem?_cons_succ, List.getElem?_cons_zero, Option.bind_some, Option.bind_none, Act.put, List.setIfInBounds_toArray, List.set_cons_zero, List.set_cons_succ] at haf
        subst haf
        have HK2 : Hid (KeysOk 40 ks) := Lib.hid ⟨HK.out.asc, by have := HK.out.len; omega, HK.out.size⟩
        have q := plant_st (hide := hide) hd.out hno.out HK2.out (start_page hd.out).2.2.1 (start_page hd.out).2.2.2 (start_lat hd.out) (start_zero hd.out) hsh hs
        have Q := Lib.hid q
        have E3 := Lib.hid e3
        clear q hs hcl hd2 h6 e3
        go_wp2_with fail
        refine (Q.out).mono ?_
        clear Q
        rintro e W3 ⟨t, L, rfl, HT, hs⟩
        have Hs3 := Lib.hid (hs.sub (.cons_cons _ (.cons _ (List.Sublist.refl _))))
        clear hs
        go_wp2
        exact ⟨rfl, _, rfl, .inr (.inr ⟨_, .int .i64 t.length, ks, t, L, by simp [upd]; exact E3.out, by simp [upd], Lib.hid ⟨HT.out, HK.out⟩, Hs3.out⟩)⟩
    case hQ =>
      intro ρ W2 h hall
      rcases h with ⟨e3, _⟩ | ⟨_, _, _, _, e6, _⟩ | ⟨v3, v6, ks, t, L, e3, e6, HT, hs⟩
      · have := hall 3 (by simp)
        rw [e3] at this; cases this
      · have := hall 6 (by simp)
        rw [e6] at this; cases this
      · simp only [fillD, e3, e6, Option.getD_some, dstAt, List.getElem?_cons_succ, List.getElem?_cons_zero, Option.bind_some, Option.bind_none, Act.put, List.setIfInBounds_toArray, List.set_cons_zero, List.set_cons_succ]
        clear hall e3 e6
        go_wp2
        go_meet
        exact ⟨ks, t, L, HT, hs⟩
  case rest =>
  clear hs
  obtain ⟨ks, t, L0, HT, hs⟩ := hcut
  apply_assumption
  have Hfa := Lib.hid (show d.fa ≤ 6 by have := hfa.out; omega)
  have Hlat := Lib.hid (fun (k : Nat) (l : List Nd) (hk : t[k]? = some l) (nd : Nd) (hn : nd ∈ l) => HT.out.1.lat nd.id (HT.out.1.ok.nodes k l hk nd hn).id.1 (HT.out.1.ok.nodes k l hk nd hn).id.2)
  have Hnn := Lib.hid (show n ≤ 4 ∧ 2 ≤ n ∧ n ≤ len2 by omega)
  have hs := hs.row_nil (T := 37) (size := 1)
  obtain ⟨iv, hiv0, hiv1, hiv2, hiv3⟩ := info_parts infoLockP
  have Hi0 := Lib.hid hiv0
  have Hi1 := Lib.hid hiv1
  have Hi2 := Lib.hid hiv2
  have Hi3 := Lib.hid hiv3
  clear hiv0 hiv1 hiv2 hiv3
  have HG0 : Hid (ExG (Know.of w) bm bc d 0 (fun i => key40 (f2 i)) (fun _ => 0) (fun _ => lok0) L0 0 (rowC (.slice none 0 0) 37 1 0 (bsRow 0 (fun _ => 0)) :: blk b1 (.cells #[.int .i64 (d).th, .int .i64 (d).sn, .int .i64 (d).no, .int .i64 (d).ch, .int .i64 (d).re, .int .i64 (d).fa, .int .u64 (d).cl] 29) :: blk b0 (.cells #[.int .i64 (d).th, .int .i64 (d).sn, .int .i64 (d).no, .int .i64 (d).ch, .int .i64 (d).re, .int .i64 (d).fa, .int .u64 (d).cl] 26) :: []) wc) := Lib.hid ⟨fun _ => [], fun i hi => by omega, (St.group_nil.2 (hs.re [1, 0, 2, 3] rfl))⟩
  clear hs hn4 hn2 h2
  go_upto_region 8 with (fail)
  go_cut [18] from 999 to 0 (fun v wx => v = .int .i64 0 ∧ Hid (ExG (Know.of w) bm bc d 0 (fun i => key40 (f2 i)) (fun _ => 0) (fun _ => lok0) L0 0 (rowC (.slice none 0 0) 37 1 0 (bsRow 0 (fun _ => 0)) :: blk b1 (.cells #[.int .i64 (d).th, .int .i64 (d).sn, .int .i64 (d).no, .int .i64 (d).ch, .int .i64 (d).re, .int .i64 (d).fa, .int .u64 (d).cl] 29) :: blk b0 (.cells #[.int .i64 (d).th, .int .i64 (d).sn, .int .i64 (d).no, .int .i64 (d).ch, .int .i64 (d).re, .int .i64 (d).fa, .int .u64 (d).cl] 26) :: []) wx))
  case first =>
    as_aux_lemma =>
    go_wp2
    go_meet
    exact ⟨rfl, HG0⟩
  case rest =>
  clear HG0
  obtain ⟨rfl, HG0⟩ := hcut
  apply_assumption
  go_cut [17, 18] from 999 to 0 (fun v17 _ wx => ∃ (ax : Option Addr) (cx : Nat) (bs : Nat → Nat), v17 = .slice ax n cx ∧ Hid (ExG (Know.of w) bm bc d n (fun i => key40 (f2 i)) bs (fun _ => lok0) L0 0 (rowC (.slice ax n cx) 37 1 n (bsRow n bs) :: blk b1 (.cells #[.int .i64 (d).th, .int .i64 (d).sn, .int .i64 (d).no, .int .i64 (d).ch, .int .i64 (d).re, .int .i64 (d).fa, .int .u64 (d).cl] 29) :: blk b0 (.cells #[.int .i64 (d).th, .int .i64 (d).sn, .int .i64 (d).no, .int .i64 (d).ch, .int .i64 (d).re, .int .i64 (d).fa, .int .u64 (d).cl] 26) :: []) wx))
  case first =>
    as_aux_lemma =>
    go_wp2
    go_loopw [17, 18] (fun v17 v18 wr => ∃ (i : Nat) (ax : Option Addr) (cx : Nat) (bs : Nat → Nat), v17 = .slice ax i cx ∧ v18 = .int .i64 i ∧ i ≤ n ∧ Hid (ExG (Know.of w) bm bc d i (fun i => key40 (f2 i)) bs (fun _ => lok0) L0 0 (rowC (.slice ax i cx) 37 1 i (bsRow i bs) :: blk b1 (.cells #[.int .i64 (d).th, .int .i64 (d).sn, .int .i64 (d).no, .int .i64 (d).ch, .int .i64 (d).re, .int .i64 (d).fa, .int .u64 (d).cl] 29) :: blk b0 (.cells #[.int .i64 (d).th, .int .i64 (d).sn, .int .i64 (d).no, .int .i64 (d).ch, .int .i64 (d).re, .int .i64 (d).fa, .int .u64 (d).cl] 26) :: []) wr)) (fun _ v _ => n - (intOf v).toNat)
    case atStart => exact ⟨0, none, 0, _, rfl, rfl, by omega, HG0⟩
    case round =>
      clear HG0
      obtain ⟨i, ax, cx, bs, rfl, rfl, hi, HG⟩ := hrel
      by_cases hin : i < n
      · obtain ⟨C, hr, hs⟩ := HG.out
        have Hr := Lib.hid hr
        have hn4 := Hnn.out.1
        have hil : i < len2 := by have := Hnn.out; omega
        obtain ⟨qb, qoff, rfl, hqlt, kq, hsz⟩ := Hz2.out.2 i hil
        rw [← (hs.below (Know.Le.refl _)).cell (p := ⟨qb, _, none⟩) hqlt] at kq
        simp only [maxLen] at hsz
        have kl := hs.b3.k0
        have hy : ∃ y, y = f2 i := ⟨_, rfl⟩
        obtain ⟨y, hy⟩ := hy
        rw [← hy] at kq hsz
        have Hk40 : Hid ((fun i => key40 (f2 i)) i = key40 y) := Lib.hid (by rw [hy])
        have Hs := Lib.hid hs
        clear hs hr hy
        have Q := Lib.hid (fun (W : World) (hb : Below wr.heap.size wr W) => newLock_st (d := d) (key := key40 y) (level := ((0 : Nat) : Int)) (Hs.out.same hb))
        clear HG
        go_upto_region 11 with (fail)
        refine region_tail_move _ 12 rfl rfl (by kernel_rfl) (by as_aux_lemma => kernel_rfl) (fun _ _ _ _ h => h) ?_
        simp only [List.take_succ_cons, List.take_zero, List.drop_succ_cons, List.drop_zero, Act.put, List.setIfInBounds_toArray, List.set_cons_zero, List.set_cons_succ, Act.eval]
        by_cases h40 : y.size ≤ 40
        · have e40 : key40 y = y := if_pos h40
          rw [e40] at Q Hk40
          clear e40
          repeat (go_big_quiet_step (fail))
          refine wpQuiet_nil ?_
          intro w5 hb5
          have q := Q.out w5 hb5
          have Q2 := Lib.hid q
          clear q Q Hs hb5 kl kq hqlt
          go_wp2_with fail
          refine (Q2.out).mono ?_
          clear Q2
          rintro e w6 ⟨b, C', rfl, hr', hs⟩
          have Hr' := Lib.hid hr'
          have hs := (St.group_iff.2 hs).b3
          clear hr'
          go_wp2_with (at_builtin; refine append_st _ _ 36 37 _ i 1 8 _ [(.pointer (some ⟨b, 0, none⟩))] (.pointer none) iv hs rfl rfl Tryz.underlying36 Hi0.out Hi1.out Hi2.out Hi3.out rfl (by decide) rfl rfl rfl (fun u hu => by simp at hu; subst hu; rfl) (by omega) (by decide) ?_)
          clear hs
          intro v' w' hs
          obtain ⟨ax2, cx2, hv, _, _⟩ := hs.row_read
          subst hv
          rw [bsRow_push] at hs
          have HG : Hid (ExG (Know.of w) bm bc d (i + 1) (fun i => key40 (f2 i)) (updF bs i b) (fun _ => lok0) L0 0 (rowC (.slice ax2 (i + 1) cx2) 37 1 (i + 1) (bsRow (i + 1) (updF bs i b)) :: blk b1 (.cells #[.int .i64 (d).th, .int .i64 (d).sn, .int .i64 (d).no, .int .i64 (d).ch, .int .i64 (d).re, .int .i64 (d).fa, .int .u64 (d).cl] 29) :: blk b0 (.cells #[.int .i64 (d).th, .int .i64 (d).sn, .int .i64 (d).no, .int .i64 (d).ch, .int .i64 (d).re, .int .i64 (d).fa, .int .u64 (d).cl] 26) :: []) w') := Lib.hid (ExG.push ⟨C, Hr.out, St.group_iff.1 (hs.re [1, 2, 3, 0, 4, 5] rfl)⟩ Hk40.out Hr'.out rfl)
          clear hs
          go_wp2
          go_roundw
          case rel => exact ⟨i + 1, ax2, cx2, updF bs i b, rfl, by go_num, by omega, HG⟩
          case measure => simp [intOf]; omega
        · have h40' : ¬ ((y.size : Int) ≤ 40) := by omega
          have e40 : key40 y = y.extract 0 40 := if_neg h40
          rw [e40] at Q Hk40
          clear e40
          repeat (go_big_quiet_step (fail))
          refine wpQuiet_nil ?_
          intro w5 hb5
          have q := Q.out w5 hb5
          have Q2 := Lib.hid q
          clear q Q Hs hb5 kl kq hqlt
          go_wp2_with fail
          refine (Q2.out).mono ?_
          clear Q2
          rintro e w6 ⟨b, C', rfl, hr', hs⟩
          have Hr' := Lib.hid hr'
          have hs := (St.group_iff.2 hs).b3
          clear hr'
          go_wp2_with (at_builtin; refine append_st _ _ 36 37 _ i 1 8 _ [(.pointer (some ⟨b, 0, none⟩))] (.pointer none) iv hs rfl rfl Tryz.underlying36 Hi0.out Hi1.out Hi2.out Hi3.out rfl (by decide) rfl rfl rfl (fun u hu => by simp at hu; subst hu; rfl) (by omega) (by decide) ?_)
          clear hs
          intro v' w' hs
          obtain ⟨ax2, cx2, hv, _, _⟩ := hs.row_read
          subst hv
          rw [bsRow_push] at hs
          have HG : Hid (ExG (Know.of w) bm bc d (i + 1) (fun i => key40 (f2 i)) (updF bs i b) (fun _ => lok0) L0 0 (rowC (.slice ax2 (i + 1) cx2) 37 1 (i + 1) (bsRow (i + 1) (updF bs i b)) :: blk b1 (.cells #[.int .i64 (d).th, .int .i64 (d).sn, .int .i64 (d).no, .int .i64 (d).ch, .int .i64 (d).re, .int .i64 (d).fa, .int .u64 (d).cl] 29) :: blk b0 (.cells #[.int .i64 (d).th, .int .i64 (d).sn, .int .i64 (d).no, .int .i64 (d).ch, .int .i64 (d).re, .int .i64 (d).fa, .int .u64 (d).cl] 26) :: []) w') := Lib.hid (ExG.push ⟨C, Hr.out, St.group_iff.1 (hs.re [1, 2, 3, 0, 4, 5] rfl)⟩ Hk40.out Hr'.out rfl)
          clear hs
          go_wp2
          go_roundw
          case rel => exact ⟨i + 1, ax2, cx2, updF bs i b, rfl, by go_num, by omega, HG⟩
          case measure => simp [intOf]; omega
      · obtain rfl : i = n := by omega
        go_wp2
        go_meet
        exact ⟨ax, cx, bs, rfl, HG⟩
  case rest =>
  clear HG0
  obtain ⟨ax, cx, bs, rfl, HG⟩ := hcut
  apply_assumption
  obtain ⟨C, hr, hs⟩ := HG.out
  have Hr := Lib.hid hr
  obtain ⟨gx, rfl, cz⟩ := (show St (Know.of w) _ (rowC (.slice ax n cx) 37 1 n (bsRow n bs) :: _) from hs.b2).row_at (bsRow_at bs (show 0 < n by have := Hnn.out; omega))
  obtain ⟨ii, hii0, hii1, hii2, hii3⟩ := info_parts infoInt12
  have hmk := makeRow 39 3 ii (.int .i64 0) 8 Tryz.underlying39 hii0 hii1 hii2 hii3 rfl (by decide) n (by have := Hnn.out; omega) (n : Int) rfl
  have hs := hs.made (.cells (Array.replicate n (.int .i64 0)) 3)
  obtain ⟨gh, hgh⟩ : ∃ b, b = wc.heap.size := ⟨_, rfl⟩
  rw [← hgh] at hs
  have hs := hs.blk_eq (o' := .cells (hRow n (fun _ => 0)).toArray 3) (by rw [← hRow_zero]; simp)
  have hs := hs.row_lit (n := n) (size := 1) (by rw [hRow_len]; omega) (by unfold maxLen; have := Hnn.out; omega)
  have hs : St (Know.of w) _ (exC n C :: memC bm bc L0 0 :: rowC (.slice (some ⟨gh, 0, none⟩) n n) 3 1 n (hRow n (fun _ => 0)) :: rowC (.slice (some ⟨gx, 0, none⟩) n cx) 37 1 n (bsRow n bs) :: blk b1 (.cells #[.int .i64 (d).th, .int .i64 (d).sn, .int .i64 (d).no, .int .i64 (d).ch, .int .i64 (d).re, .int .i64 (d).fa, .int .u64 (d).cl] 29) :: blk b0 (.cells #[.int .i64 (d).th, .int .i64 (d).sn, .int .i64 (d).no, .int .i64 (d).ch, .int .i64 (d).re, .int .i64 (d).fa, .int .u64 (d).cl] 26) :: []) := hs.re [1, 2, 0, 3, 4, 5] rfl
  clear HG cz hr
  go_upto_region 13 with (fail)
  rw [← hgh]
  clear hgh hmk hii0 hii1 hii2 hii3
  refine wp_ck hs ?_
  clear hs
  intro w5 hs
  have Hch := Lib.hid (show ∃ ch, ch = n from ⟨_, rfl⟩)
  obtain ⟨ch, hch2⟩ := Hch.out
  have hs : St (Know.of w) w5 (exC n C :: memC bm bc L0 0 :: rowC (.slice (some ⟨gh, 0, none⟩) n ch) 3 1 n (hRow n (fun _ => (0 : Int))) :: rowC (.slice (some ⟨gx, 0, none⟩) n cx) 37 1 n (bsRow n bs) :: blk b1 (.cells #[.int .i64 (d).th, .int .i64 (d).sn, .int .i64 (d).no, .int .i64 (d).ch, .int .i64 (d).re, .int .i64 (d).fa, .int .u64 (d).cl] 29) :: blk b0 (.cells #[.int .i64 (d).th, .int .i64 (d).sn, .int .i64 (d).no, .int .i64 (d).ch, .int .i64 (d).re, .int .i64 (d).fa, .int .u64 (d).cl] 26) :: []) := by rw [hch2]; exact hs
  have HG : Hid (ExG (Know.of w) bm bc d n (fun i => key40 (f2 i)) bs (fun _ => lok0) L0 0 (rowC (.slice (some ⟨gh, 0, none⟩) n ch) 3 1 n (hRow n (fun _ => (0 : Int))) :: rowC (.slice (some ⟨gx, 0, none⟩) n cx) 37 1 n (bsRow n bs) :: blk b1 (.cells #[.int .i64 (d).th, .int .i64 (d).sn, .int .i64 (d).no, .int .i64 (d).ch, .int .i64 (d).re, .int .i64 (d).fa, .int .u64 (d).cl] 29) :: blk b0 (.cells #[.int .i64 (d).th, .int .i64 (d).sn, .int .i64 (d).no, .int .i64 (d).ch, .int .i64 (d).re, .int .i64 (d).fa, .int .u64 (d).cl] 26) :: []) w5) := Lib.hid ⟨C, Hr.out, hs⟩
  have HI : Hid (ExI d L0 L0 t n (fun i => key40 (f2 i)) (fun _ => lok0) (fun _ => 0) (fun _ => 1138)) := Lib.hid (ExI.start hd.out HT.out.1.ok HT.out.1.cels HT.out.1.clen Hlat.out HT.out.1.c100 Hfa.out)
  have HB : Hid (ExB n lp 0 (sumN n (fun _ => 1138)) (Idle d L0 t (fun _ => lok0) (fun _ => 0)) 0) := Lib.hid (ExB.start Hnn.out.1)
  have Hl0 : Hid (((n : Nat) : Int) = ((leftN n (fun _ => (0 : Int)) : Nat) : Int)) := Lib.hid (by unfold leftN; rw [List.filter_eq_self.2 (fun a _ => by show ((0 : Int) != -1) = true; rfl), List.length_range])
  clear hs Hr hch2 Hch
  go_cut [21] from 999 to 0 (fun v wx => v = .int .i64 0 ∧ Hid (ExG (Know.of w) bm bc d n (fun i => key40 (f2 i)) bs (fun _ => lok0) L0 0 (rowC (.slice (some ⟨gh, 0, none⟩) n ch) 3 1 n (hRow n (fun _ => (0 : Int))) :: rowC (.slice (some ⟨gx, 0, none⟩) n cx) 37 1 n (bsRow n bs) :: blk b1 (.cells #[.int .i64 (d).th, .int .i64 (d).sn, .int .i64 (d).no, .int .i64 (d).ch, .int .i64 (d).re, .int .i64 (d).fa, .int .u64 (d).cl] 29) :: blk b0 (.cells #[.int .i64 (d).th, .int .i64 (d).sn, .int .i64 (d).no, .int .i64 (d).ch, .int .i64 (d).re, .int .i64 (d).fa, .int .u64 (d).cl] 26) :: []) wx))
  case first =>
    as_aux_lemma =>
    go_wp2
    go_meet
    exact ⟨rfl, HG⟩
  case rest =>
  clear HG
  obtain ⟨rfl, HG⟩ := hcut
  apply_assumption
  go_cut [20, 21, 22, 23, 24] from 999 to 0 (fun v20 _ _ _ _ wx => v20 = .int .i64 0 ∧ ∃ (acc : Nat) (X : Nat → LkS) (H : Nat → Int), Hid (ExG (Know.of w) bm bc d n (fun i => key40 (f2 i)) bs X L0 acc (rowC (.slice (some ⟨gh, 0, none⟩) n ch) 3 1 n (hRow n H) :: rowC (.slice (some ⟨gx, 0, none⟩) n cx) 37 1 n (bsRow n bs) :: blk b1 (.cells #[.int .i64 (d).th, .int .i64 (d).sn, .int .i64 (d).no, .int .i64 (d).ch, .int .i64 (d).re, .int .i64 (d).fa, .int .u64 (d).cl] 29) :: blk b0 (.cells #[.int .i64 (d).th, .int .i64 (d).sn, .int .i64 (d).no, .int .i64 (d).ch, .int .i64 (d).re, .int .i64 (d).fa, .int .u64 (d).cl] 26) :: []) wx))
  case first =>
    obtain ⟨M, hM⟩ : ∃ M : Nat, M = 30000 := ⟨_, rfl⟩
    have HM : Hid ((M : Int) = 30000) := Lib.hid (by omega)
    clear hM
    go_wp2
    go_loopw [20, 21, 22, 23, 24] (fun v20 v21 _ _ _ wr => ∃ (k acc a : Nat) (X : Nat → LkS) (H : Nat → Int) (p : Nat → Nat) (L : List Cel), v20 = .int .i64 (leftN n H : Nat) ∧ v21 = .int .i64 k ∧ Hid (k ≤ M) ∧ acc ≤ k ∧ Hid (ExI d L0 L t n (fun i => key40 (f2 i)) X H p) ∧ Hid (ExB n lp k (sumN n p) (Idle d L t X H) a) ∧ Hid (ExG (Know.of w) bm bc d n (fun i => key40 (f2 i)) bs X L acc (rowC (.slice (some ⟨gh, 0, none⟩) n ch) 3 1 n (hRow n H) :: rowC (.slice (some ⟨gx, 0, none⟩) n cx) 37 1 n (bsRow n bs) :: blk b1 (.cells #[.int .i64 (d).th, .int .i64 (d).sn, .int .i64 (d).no, .int .i64 (d).ch, .int .i64 (d).re, .int .i64 (d).fa, .int .u64 (d).cl] 29) :: blk b0 (.cells #[.int .i64 (d).th, .int .i64 (d).sn, .int .i64 (d).no, .int .i64 (d).ch, .int .i64 (d).re, .int .i64 (d).fa, .int .u64 (d).cl] 26) :: []) wr)) (fun _ v _ _ _ _ => M - (intOf v).toNat)
    case atStart => exact ⟨0, 0, 0, _, _, _, _, by rw [Hl0.out], rfl, Lib.hid (Nat.zero_le _), by omega, HI, HB, HG⟩
    case round =>
      clear HG HI HB Hl0
      obtain ⟨k, acc, a, X, H, p, L, rfl, rfl, Hk, hacc, HI, HB, HG⟩ := hrel
      by_cases hl : leftN n H = 0
      · have hLL : L = L0 := HI.out.last HT.out.1.clen Hlat.out hl
        subst hLL
        by_cases hk3 : (k : Int) < 30000
        · go_wp2
          go_meet
          exact ⟨by first | rfl | (rw [hl]; rfl), acc, X, H, HG⟩
        · go_wp2
          go_meet
          exact ⟨by first | rfl | (rw [hl]; rfl), acc, X, H, HG⟩
      · have hk3 : (k : Int) < 30000 := by
          rcases Nat.lt_or_ge k 30000 with h | h
          · omega
          · exact (HB.out.last Hnn.out.1 hlp2 h).elim
        have han : a < n := by
          rcases Nat.lt_or_ge a n with h | h
          · exact h
          · have := HB.out.le
            obtain rfl : a = n := by omega
            exact (HI.out.live hl (fun i hi => HB.out.all (by have := Hnn.out; omega) hi)).elim
        have Han := Lib.hid han
        have Hl := Lib.hid hl
        have Hlp := Lib.hid (show 0 < leftN n H by omega)
        clear han hl
        go_upto_region 14 with (fail)
        go_cut [91] from 86 to 92 (fun v wx => v = .bool true ∧ wx = wr)
        case first =>
          go_wp2
          go_meet
          exact ⟨by rw [decide_eq_true Hlp.out], rfl⟩
        case rest =>
        obtain ⟨rfl, rfl⟩ := hcut
        apply_assumption
        go_upto_region 16 with (fail)
        go_cut [22] from 94 to 97 (fun v wx => v = .int .i64 ((k % n : Nat) : Int) ∧ Hid (ExG (Know.of w) bm bc d n (fun i => key40 (f2 i)) bs X L acc (rowC (.slice (some ⟨gh, 0, none⟩) n ch) 3 1 n (hRow n H) :: rowC (.slice (some ⟨gx, 0, none⟩) n cx) 37 1 n (bsRow n bs) :: blk b1 (.cells #[.int .i64 (d).th, .int .i64 (d).sn, .int .i64 (d).no, .int .i64 (d).ch, .int .i64 (d).re, .int .i64 (d).fa, .int .u64 (d).cl] 29) :: blk b0 (.cells #[.int .i64 (d).th, .int .i64 (d).sn, .int .i64 (d).no, .int .i64 (d).ch, .int .i64 (d).re, .int .i64 (d).fa, .int .u64 (d).cl] 26) :: []) wx))
        case first =>
          as_aux_lemma =>
          have hn0 : ¬ (n : Int) = 0 := by have := Hnn.out; omega
          have hm : ((k : Int)).tmod (n : Int) = ((k % n : Nat) : Int) := by
            rw [Int.tmod_eq_emod_of_nonneg (by omega)]
            rfl
          go_wp2
          go_meet
          exact ⟨rfl, HG⟩
        case rest =>
        clear HG
        obtain ⟨rfl, HG⟩ := hcut
        apply_assumption
        have Hk3 : Hid (k < M) := Lib.hid (by have := HM.out; omega)
        have Hac : Hid (acc ≤ k) := Lib.hid hacc
        clear hacc
        refine wp_seq_k ?_
        intro KK hKK
        go_cut [22] from 97 to 108 (fun v wx => ∃ i : Nat, v = .int .i64 i ∧ Hid (i < n ∧ (lp ≤ k → i = k % n)) ∧ Hid (ExG (Know.of w) bm bc d n (fun i => key40 (f2 i)) bs X L acc (rowC (.slice (some ⟨gh, 0, none⟩) n ch) 3 1 n (hRow n H) :: rowC (.slice (some ⟨gx, 0, none⟩) n cx) 37 1 n (bsRow n bs) :: blk b1 (.cells #[.int .i64 (d).th, .int .i64 (d).sn, .int .i64 (d).no, .int .i64 (d).ch, .int .i64 (d).re, .int .i64 (d).fa, .int .u64 (d).cl] 29) :: blk b0 (.cells #[.int .i64 (d).th, .int .i64 (d).sn, .int .i64 (d).no, .int .i64 (d).ch, .int .i64 (d).re, .int .i64 (d).fa, .int .u64 (d).cl] 26) :: []) wx))
        case first =>
          as_aux_lemma =>
          have hnp : 0 < n := by have := Hnn.out; omega
          have hn0 : ¬ (n : Int) = 0 := by omega
          have hbel : Below w.heap.size w wc := by
            obtain ⟨_, _, hs⟩ := HG.out
            exact hs.below (Know.Le.refl _)
          by_cases hkp : k < lp
          · obtain ⟨qb, qoff, rfl, hqlt, kq, wq⟩ := Hq.out.2 k hkp
            rw [← hbel.cell (p := ⟨qb, qoff + k, none⟩) hqlt] at kq
            generalize P k = pk at *
            have wq := wf_u8 wq
            obtain ⟨wq1, wq2⟩ := wq
            obtain ⟨pn, rfl⟩ : ∃ pn : Nat, pk = pn := ⟨pk.toNat, by omega⟩
            have hm : ((pn : Int)).tmod (n : Int) = ((pn % n : Nat) : Int) := by
              rw [Int.tmod_eq_emod_of_nonneg (by omega)]
              rfl
            have Hlt := Lib.hid (Nat.mod_lt pn hnp)
            clear hbel
            go_wp2
            go_meet
            exact ⟨pn % n, rfl, Lib.hid ⟨Hlt.out, fun h => by omega⟩, HG⟩
          · have Hlt := Lib.hid (Nat.mod_lt k hnp)
            clear hbel
            go_wp2
            go_meet
            exact ⟨k % n, rfl, Lib.hid ⟨Hlt.out, fun _ => rfl⟩, HG⟩
        case rest =>
        clear HG
        obtain ⟨i, rfl, Hi, HG⟩ := hcut
        apply_assumption
        have hin : i < n := Hi.out.1
        rcases HI.out.cases Hi.out.1 with h0 | ⟨h1, h4⟩ | h1 | h1
        ·
          -- <MA
          have q := ExG.lock hd.out Hnn.out.1 Hi.out.1 h0 HI.out (show acc ≤ 1000000000000 by have := Hac.out; have := Hk3.out; have := HM.out; omega) HG.out
          have Q := Lib.hid q
          obtain ⟨C, hr, hs⟩ := HG.out
          have cH := (show St (Know.of w) _ (rowC _ _ _ _ (hRow n H) :: _) from hs.b2).row_cell (hRow_at H Hi.out.1)
          rw [h0] at cH
          have cx := (show St (Know.of w) _ (rowC _ _ _ _ (bsRow n bs) :: _) from hs.b3).row_cell (bsRow_at bs Hi.out.1)
          have H0 := Lib.hid h0
          clear q hs hr HG h0
          go_upto_region 20 with (fail)
          go_wp2_with fail
          refine (Q.out).mono ?_
          clear Q cH cx
          rintro e w6 ⟨dn, X', H', L', p', rfl, hH1, hH2, hI', hG', hpr⟩
          obtain ⟨a', HB'⟩ := HB.out.next Han.out Hi.out.2 hpr
          have HI' := Lib.hid hI'
          have HG' := Lib.hid hG'
          clear hI' hG' hpr
          cases dn with
          | false =>
            obtain rfl := hH2 rfl
            clear hH1 hH2
            go_wp2
            go_roundw
            case rel => exact ⟨k + 1, acc + 1, a', X', H', p', L', rfl, by go_num, Lib.hid (by have := Hk3.out; omega), by have := Hac.out; omega, HI', HB', HG'⟩
            case measure => have := Hk3.out; have := HM.out; simp [intOf]; omega
          | true =>
            obtain rfl := hH1 rfl
            clear hH1 hH2
            have Hleft : Hid (((leftN n H : Nat) : Int) = ((leftN n (updF H i 4) : Nat) : Int)) := Lib.hid (by rw [leftN_same (by rw [H0.out]; decide) (by decide)])
            obtain ⟨C, hr, hs⟩ := HG'.out
            have Hr := Lib.hid hr
            have hs2 := hs.b2
            have hs2 : St (Know.of w) w6 (rowC (.slice (some ⟨gh, 0, none⟩) n ch) 3 1 n (hRow n H) :: exC n C :: memC bm bc L' (acc + 1) :: rowC (.slice (some ⟨gx, 0, none⟩) n cx) 37 1 n (bsRow n bs) :: blk b1 (.cells #[.int .i64 (d).th, .int .i64 (d).sn, .int .i64 (d).no, .int .i64 (d).ch, .int .i64 (d).re, .int .i64 (d).fa, .int .u64 (d).cl] 29) :: blk b0 (.cells #[.int .i64 (d).th, .int .i64 (d).sn, .int .i64 (d).no, .int .i64 (d).ch, .int .i64 (d).re, .int .i64 (d).fa, .int .u64 (d).cl] 26) :: []) := hs2
            have fz := hs2.row_free (by have := Hnn.out; omega)
            have cH := hs2.row_cell (hRow_at H Hi.out.1)
            have hset := hs2.row_set (j := i) (.int .i64 4)
            rw [hRow_set] at hset
            clear hs hs2 hr HG'
            go_upto_region 22 with (fail)
            refine wp_ck hset ?_
            clear hset fz cH
            intro w7 hs
            have HG' : Hid (ExG (Know.of w) bm bc d n (fun i => key40 (f2 i)) bs X' L' (acc + 1) (rowC (.slice (some ⟨gh, 0, none⟩) n ch) 3 1 n (hRow n (updF H i 4)) :: rowC (.slice (some ⟨gx, 0, none⟩) n cx) 37 1 n (bsRow n bs) :: blk b1 (.cells #[.int .i64 (d).th, .int .i64 (d).sn, .int .i64 (d).no, .int .i64 (d).ch, .int .i64 (d).re, .int .i64 (d).fa, .int .u64 (d).cl] 29) :: blk b0 (.cells #[.int .i64 (d).th, .int .i64 (d).sn, .int .i64 (d).no, .int .i64 (d).ch, .int .i64 (d).re, .int .i64 (d).fa, .int .u64 (d).cl] 26) :: []) w7) := Lib.hid ⟨C, Hr.out, St.u2 hs⟩
            clear hs Hr
            have H4 : Hid (0 < updF H i 4 i) := Lib.hid (by rw [updF_same]; decide)
            rw [Hleft.out]
            clear Hleft H0 HI HB
            generalize updF H i 4 = H' at *
            go_wp2
            go_loopw [23] (fun v wr => ∃ j : Nat, v = .int .i64 j ∧ j ≤ n ∧ Hid (ExG (Know.of w) bm bc d n (fun i => key40 (f2 i)) bs X' L' (acc + 1) (rowC (.slice (some ⟨gh, 0, none⟩) n ch) 3 1 n (hRow n H') :: rowC (.slice (some ⟨gx, 0, none⟩) n cx) 37 1 n (bsRow n bs) :: blk b1 (.cells #[.int .i64 (d).th, .int .i64 (d).sn, .int .i64 (d).no, .int .i64 (d).ch, .int .i64 (d).re, .int .i64 (d).fa, .int .u64 (d).cl] 29) :: blk b0 (.cells #[.int .i64 (d).th, .int .i64 (d).sn, .int .i64 (d).no, .int .i64 (d).ch, .int .i64 (d).re, .int .i64 (d).fa, .int .u64 (d).cl] 26) :: []) wr)) (fun v _ => n - (intOf v).toNat)
            case atStart => exact ⟨0, rfl, by omega, HG'⟩
            case round =>
              clear HG'
              obtain ⟨j, rfl, hj, HG⟩ := hrel
              have hj9 : (j : Int) ≤ 4 := by have := Hnn.out; omega
              by_cases hjn : j < n
              · go_upto_region 25 with (fail)
                obtain ⟨C, hr, hs⟩ := HG.out
                have Hr := Lib.hid hr
                clear hr HG
                go_cut [152] from 128 to 152 (fun v wx => v = .bool false ∧ Hid (ExG (Know.of w) bm bc d n (fun i => key40 (f2 i)) bs X' L' (acc + 1) (rowC (.slice (some ⟨gh, 0, none⟩) n ch) 3 1 n (hRow n H') :: rowC (.slice (some ⟨gx, 0, none⟩) n cx) 37 1 n (bsRow n bs) :: blk b1 (.cells #[.int .i64 (d).th, .int .i64 (d).sn, .int .i64 (d).no, .int .i64 (d).ch, .int .i64 (d).re, .int .i64 (d).fa, .int .u64 (d).cl] 29) :: blk b0 (.cells #[.int .i64 (d).th, .int .i64 (d).sn, .int .i64 (d).no, .int .i64 (d).ch, .int .i64 (d).re, .int .i64 (d).fa, .int .u64 (d).cl] 26) :: []) wx))
                case first =>
                  by_cases hji : j = i
                  · as_aux_lemma =>
                    subst hji
                    have cH := (show St (Know.of w) _ (rowC _ _ _ _ (hRow n H') :: _) from hs.b2).row_cell (hRow_at H' hjn)
                    refine region_pure (by kernel_rfl) (by kernel_rfl) ?_
                    repeat (go_big_quiet_step (fail))
                    refine wpQuiet_nil ?_
                    intro w8 hb8
                    have HG : Hid (ExG (Know.of w) bm bc d n (fun i => key40 (f2 i)) bs X' L' (acc + 1) (rowC (.slice (some ⟨gh, 0, none⟩) n ch) 3 1 n (hRow n H') :: rowC (.slice (some ⟨gx, 0, none⟩) n cx) 37 1 n (bsRow n bs) :: blk b1 (.cells #[.int .i64 (d).th, .int .i64 (d).sn, .int .i64 (d).no, .int .i64 (d).ch, .int .i64 (d).re, .int .i64 (d).fa, .int .u64 (d).cl] 29) :: blk b0 (.cells #[.int .i64 (d).th, .int .i64 (d).sn, .int .i64 (d).no, .int .i64 (d).ch, .int .i64 (d).re, .int .i64 (d).fa, .int .u64 (d).cl] 26) :: []) w8) := Lib.hid ⟨C, Hr.out, hs.same hb8⟩
                    clear hs cH hb8
                    go_wp2
                    go_meet
                    exact ⟨rfl, HG⟩
                  · have hjz : ((j : Int) != (i : Int)) = true := by simp; omega
                    by_cases hjp : 0 < H' j
                    · as_aux_lemma =>
                      obtain ⟨j1, j2, j3, j4⟩ := HI'.out.says hd.out hjn hjp
                      obtain ⟨i1, i2, i3, i4⟩ := HI'.out.says hd.out Hi.out.1 H4.out
                      have Hj := Lib.hid (And.intro j1 j2)
                      have Hi4 := Lib.hid (And.intro i1 i2)
                      have Hne := Lib.hid (HI'.out.other Hi.out.1 hjn hji H4.out hjp)
                      have hne2 : ((X' j).h.id == (X' i).h.id) = false := by simpa using Hne.out
                      clear j1 j2 j3 j4 i1 i2 i3 i4 hji
                      have Hs := Lib.hid hs
                      clear hs
                      refine region_effectsK [false, false, false, false, false, false, false, false, false, false, false, false, false, false, false, true, true, false, false, false, false, true, true, false, false] (fun | 16 => some (.int .u64 (X' j).h.id) | 22 => some (.int .u64 (X' i).h.id) | _ => none) [15, 16, 21, 22] (fun | 16 => [15] | 22 => [21] | _ => [])
                        (GR (Know.of w) (exC n C :: memC bm bc L' (acc + 1) :: rowC (.slice (some ⟨gh, 0, none⟩) n ch) 3 1 n (hRow n H') :: rowC (.slice (some ⟨gx, 0, none⟩) n cx) 37 1 n (bsRow n bs) :: blk b1 (.cells #[.int .i64 (d).th, .int .i64 (d).sn, .int .i64 (d).no, .int .i64 (d).ch, .int .i64 (d).re, .int .i64 (d).fa, .int .u64 (d).cl] 29) :: blk b0 (.cells #[.int .i64 (d).th, .int .i64 (d).sn, .int .i64 (d).no, .int .i64 (d).ch, .int .i64 (d).re, .int .i64 (d).fa, .int .u64 (d).cl] 26) :: []) [15, 16, 21, 22] (HeΦ (X' j).h (X' i).h))
                        (fun W => St (Know.of w) W (exC n C :: memC bm bc L' (acc + 1) :: rowC (.slice (some ⟨gh, 0, none⟩) n ch) 3 1 n (hRow n H') :: rowC (.slice (some ⟨gx, 0, none⟩) n cx) 37 1 n (bsRow n bs) :: blk b1 (.cells #[.int .i64 (d).th, .int .i64 (d).sn, .int .i64 (d).no, .int .i64 (d).ch, .int .i64 (d).re, .int .i64 (d).fa, .int .u64 (d).cl] 29) :: blk b0 (.cells #[.int .i64 (d).th, .int .i64 (d).sn, .int .i64 (d).no, .int .i64 (d).ch, .int .i64 (d).re, .int .i64 (d).fa, .int .u64 (d).cl] 26) :: [])) ?haS (by kernel_rfl) ?hhB ?hH ?hhaS ?hh0 ?hhI ?hhR ?hhE ?hhQ
                      case hhB => as_aux_lemma => kernel_rfl
                      case hH =>
                        -- <hmH
                        intro W2 hs
                        have cH := (show St (Know.of w) W2 (rowC _ _ _ _ (hRow n H') :: _) from hs.b2).row_cell (hRow_at H' hjn)
                        have cj := (show St (Know.of w) W2 (rowC _ _ _ _ (bsRow n bs) :: _) from hs.b3).row_cell (bsRow_at bs hjn)
                        have ci := (show St (Know.of w) W2 (rowC _ _ _ _ (bsRow n bs) :: _) from hs.b3).row_cell (bsRow_at bs Hi.out.1)
                        clear hs
                        simp only [withK]
                        repeat (go_big_quiet_step (fail))
                        refine wpQuiet_nil ?_
                        rfl
                        -- hmH>
                      case hhaS => rfl
                      case hh0 => exact GR.start Hs.out
                      case hhI => exact fun ρ W2 h => h.rest
                      case hhR => exact fun ρ W2 W3 h hb => h.same hb
                      case hhE =>
                        refine ⟨?he15, ?he16, ?he21, ?he22, trivial⟩
                        case he15 =>
                          -- <hm15
                          intro o ho ρ W2 h hcl h15 hd2 act hact
                          obtain rfl := Option.some.inj ho
                          replace hact : act = fillD _ ρ [] _ := hact
                          obtain ⟨C, R', hx1, hs, hnext⟩ := h.step HeΦ.mono 15 [] (by decide) (by decide) (by decide) h15 (by simp)
                          simp only [fillD] at hact
                          subst hact
                          have Hn := Lib.hid hnext
                          clear hnext hx1 h hcl hd2 h15
                          go_wp2_with fail
                          refine (exHeld hjn Hj.out.1 rfl Hj.out.2 Hr.out hs).mono ?_
                          rintro e W3 ⟨va8, rfl, hs'⟩
                          obtain ⟨a8, c8, rfl, _, _⟩ := hs'.row_read
                          have Hs' := Lib.hid hs'
                          clear hs hs'
                          go_wp2
                          exact ⟨rfl, _, rfl, fun u hu => (by cases hu), Hn.out _ _ W3 ⟨a8, c8, rfl, rfl⟩ Hs'.out⟩
                          -- hm15>
                        case he16 =>
                          -- <hm16
                          intro o ho ρ W2 h hcl h16 hd2 act hact
                          obtain rfl := Option.some.inj ho
                          replace hact : act = fillD _ ρ [15] _ := hact
                          obtain ⟨v15, h15⟩ := Option.isSome_iff_exists.1 (hd2 15 (by show _ ∈ [15]; simp))
                          obtain ⟨cs8, R8, ⟨a8, c8, rfl, rfl⟩, hs8⟩ := h.at 15 (by simp) h15
                          simp only [fillD, h15, Option.getD_some, dstAt, List.getElem?_cons_succ, List.getElem?_cons_zero, Option.bind_some, Option.bind_none, Act.put, List.setIfInBounds_toArray, List.set_cons_zero, List.set_cons_succ] at hact
                          subst hact
                          have H := Lib.hid (h.know HeΦ.mono 16 (by decide) (by simp) h16 _ ⟨rfl, rfl⟩)
                          clear h hs8 hcl hd2 h16 h15
                          go_wp2
                          exact ⟨rfl, _, rfl, fun u hu => Option.some.inj hu, H.out⟩
                          -- hm16>
                        case he21 =>
                          -- <hm21
                          intro o ho ρ W2 h hcl h21 hd2 act hact
                          obtain rfl := Option.some.inj ho
                          replace hact : act = fillD _ ρ [] _ := hact
                          obtain ⟨C, R', hx1, hs, hnext⟩ := h.step HeΦ.mono 21 [] (by decide) (by decide) (by decide) h21 (by simp)
                          simp only [fillD] at hact
                          subst hact
                          have Hn := Lib.hid hnext
                          clear hnext hx1 h hcl hd2 h21
                          go_wp2_with fail
                          refine (exHeld Hi.out.1 Hi4.out.1 rfl Hi4.out.2 Hr.out hs).mono ?_
                          rintro e W3 ⟨va8, rfl, hs'⟩
                          obtain ⟨a8, c8, rfl, _, _⟩ := hs'.row_read
                          have Hs' := Lib.hid hs'
                          clear hs hs'
                          go_wp2
                          exact ⟨rfl, _, rfl, fun u hu => (by cases hu), Hn.out _ _ W3 ⟨a8, c8, rfl, rfl⟩ Hs'.out⟩
                          -- hm21>
                        case he22 =>
                          -- <hm22
                          intro o ho ρ W2 h hcl h22 hd2 act hact
                          obtain rfl := Option.some.inj ho
                          replace hact : act = fillD _ ρ [21] _ := hact
                          obtain ⟨v21, h21⟩ := Option.isSome_iff_exists.1 (hd2 21 (by show _ ∈ [21]; simp))
                          obtain ⟨cs8, R8, ⟨a8, c8, rfl, rfl⟩, hs8⟩ := h.at 21 (by simp) h21
                          simp only [fillD, h21, Option.getD_some, dstAt, List.getElem?_cons_succ, List.getElem?_cons_zero, Option.bind_some, Option.bind_none, Act.put, List.setIfInBounds_toArray, List.set_cons_zero, List.set_cons_succ] at hact
                          subst hact
                          have H := Lib.hid (h.know HeΦ.mono 22 (by decide) (by simp) h22 _ ⟨rfl, rfl⟩)
                          clear h hs8 hcl hd2 h22 h21
                          go_wp2
                          exact ⟨rfl, _, rfl, fun u hu => Option.some.inj hu, H.out⟩
                          -- hm22>
                      case hhQ =>
                        -- <hmQ
                        intro ρ W2 h hall
                        have HG : Hid (ExG (Know.of w) bm bc d n (fun i => key40 (f2 i)) bs X' L' (acc + 1) (rowC (.slice (some ⟨gh, 0, none⟩) n ch) 3 1 n (hRow n H') :: rowC (.slice (some ⟨gx, 0, none⟩) n cx) 37 1 n (bsRow n bs) :: blk b1 (.cells #[.int .i64 (d).th, .int .i64 (d).sn, .int .i64 (d).no, .int .i64 (d).ch, .int .i64 (d).re, .int .i64 (d).fa, .int .u64 (d).cl] 29) :: blk b0 (.cells #[.int .i64 (d).th, .int .i64 (d).sn, .int .i64 (d).no, .int .i64 (d).ch, .int .i64 (d).re, .int .i64 (d).fa, .int .u64 (d).cl] 26) :: []) W2) := Lib.hid ⟨C, Hr.out, h.rest⟩
                        clear h
                        obtain ⟨v15, h15⟩ := Option.isSome_iff_exists.1 (hall 15 (by simp))
                        obtain ⟨v16, h16⟩ := Option.isSome_iff_exists.1 (hall 16 (by simp))
                        obtain ⟨v21, h21⟩ := Option.isSome_iff_exists.1 (hall 21 (by simp))
                        obtain ⟨v22, h22⟩ := Option.isSome_iff_exists.1 (hall 22 (by simp))
                        simp only [fillD, h15, h16, h21, h22, Option.getD_some, dstAt, List.getElem?_cons_succ, List.getElem?_cons_zero, Option.bind_some, Option.bind_none, Act.put, List.setIfInBounds_toArray, List.set_cons_zero, List.set_cons_succ]
                        clear hall h15 h16 h21 h22 hjz hjp hne2
                        go_wp2
                        go_meet
                        exact ⟨rfl, HG⟩
                        -- hmQ>
                    · as_aux_lemma =>
                      have cH := (show St (Know.of w) _ (rowC _ _ _ _ (hRow n H') :: _) from hs.b2).row_cell (hRow_at H' hjn)
                      refine region_pure (by kernel_rfl) (by kernel_rfl) ?_
                      repeat (go_big_quiet_step (fail))
                      refine wpQuiet_nil ?_
                      intro w8 hb8
                      have HG : Hid (ExG (Know.of w) bm bc d n (fun i => key40 (f2 i)) bs X' L' (acc + 1) (rowC (.slice (some ⟨gh, 0, none⟩) n ch) 3 1 n (hRow n H') :: rowC (.slice (some ⟨gx, 0, none⟩) n cx) 37 1 n (bsRow n bs) :: blk b1 (.cells #[.int .i64 (d).th, .int .i64 (d).sn, .int .i64 (d).no, .int .i64 (d).ch, .int .i64 (d).re, .int .i64 (d).fa, .int .u64 (d).cl] 29) :: blk b0 (.cells #[.int .i64 (d).th, .int .i64 (d).sn, .int .i64 (d).no, .int .i64 (d).ch, .int .i64 (d).re, .int .i64 (d).fa, .int .u64 (d).cl] 26) :: []) w8) := Lib.hid ⟨C, Hr.out, hs.same hb8⟩
                      clear hs cH hb8 hjz hjp
                      go_wp2
                      go_meet
                      exact ⟨rfl, HG⟩
                case rest =>
                clear hs Hr
                obtain ⟨rfl, HG⟩ := hcut
                apply_assumption
                go_wp2
                go_roundw
                case rel => exact ⟨j + 1, by go_num, by omega, HG⟩
                case measure => simp [intOf]; omega
              · go_wp2
                go_roundw
                case rel => exact ⟨k + 1, acc + 1, a', X', H', p', L', rfl, by go_num, Lib.hid (by have := Hk3.out; omega), by have := Hac.out; omega, HI', HB', HG⟩
                case measure => have := Hk3.out; have := HM.out; simp [intOf]; omega
          -- MA>
        ·
          -- <MB
          obtain ⟨p', hI', hp'⟩ := HI.out.hold Hnn.out.1 Hi.out.1 h1
          obtain ⟨a', HB'⟩ := HB.out.next (L' := L) (X' := X) (H' := updF H i (H i - 1)) Han.out Hi.out.2 (.inl hp')
          have HI' := Lib.hid hI'
          have Hleft : Hid (((leftN n H : Nat) : Int) = ((leftN n (updF H i (H i - 1)) : Nat) : Int)) := Lib.hid (by rw [leftN_same (by omega) (by omega)])
          obtain ⟨C, hr, hs⟩ := HG.out
          have Hr := Lib.hid hr
          have hs2 := hs.b2
          have hs2 : St (Know.of w) wc (rowC (.slice (some ⟨gh, 0, none⟩) n ch) 3 1 n (hRow n H) :: exC n C :: memC bm bc L acc :: rowC (.slice (some ⟨gx, 0, none⟩) n cx) 37 1 n (bsRow n bs) :: blk b1 (.cells #[.int .i64 (d).th, .int .i64 (d).sn, .int .i64 (d).no, .int .i64 (d).ch, .int .i64 (d).re, .int .i64 (d).fa, .int .u64 (d).cl] 29) :: blk b0 (.cells #[.int .i64 (d).th, .int .i64 (d).sn, .int .i64 (d).no, .int .i64 (d).ch, .int .i64 (d).re, .int .i64 (d).fa, .int .u64 (d).cl] 26) :: []) := hs2
          have fz := hs2.row_free (by have := Hnn.out; omega)
          have cH := hs2.row_cell (hRow_at H Hi.out.1)
          have hset := hs2.row_set (j := i) (.int .i64 (H i - 1))
          rw [hRow_set] at hset
          clear hs hs2 hr HG hI' hp' HI HB
          rw [Hleft.out]
          clear Hleft
          generalize updF H i (H i - 1) = H' at *
          generalize H i = hv at *
          have hne : ¬ hv = 0 := by omega
          have hw : wrap64 (hv - 1) = hv - 1 := wrap64_idn (by omega) (by omega)
          clear h4 hk3
          go_upto_region 15 with (fail)
          refine wp_ck hset ?_
          clear hset fz cH
          intro w7 hs
          have HG' : Hid (ExG (Know.of w) bm bc d n (fun i => key40 (f2 i)) bs X L acc (rowC (.slice (some ⟨gh, 0, none⟩) n ch) 3 1 n (hRow n H') :: rowC (.slice (some ⟨gx, 0, none⟩) n cx) 37 1 n (bsRow n bs) :: blk b1 (.cells #[.int .i64 (d).th, .int .i64 (d).sn, .int .i64 (d).no, .int .i64 (d).ch, .int .i64 (d).re, .int .i64 (d).fa, .int .u64 (d).cl] 29) :: blk b0 (.cells #[.int .i64 (d).th, .int .i64 (d).sn, .int .i64 (d).no, .int .i64 (d).ch, .int .i64 (d).re, .int .i64 (d).fa, .int .u64 (d).cl] 26) :: []) w7) := Lib.hid ⟨C, Hr.out, St.u2 hs⟩
          clear hs
          have hk3 : (k : Int) < 30000 := by have := Hk3.out; have := HM.out; omega
          go_wp2
          go_roundw
          case rel => exact ⟨k + 1, acc, a', X, H', p', L, rfl, by go_num, Lib.hid (by have := Hk3.out; omega), by have := Hac.out; omega, HI', HB', HG'⟩
          case measure => have := Hk3.out; have := HM.out; simp [intOf]; omega
          -- MB>
        ·
          -- <MC
          have hrel2 := HI.out.rel hd.out Hnn.out.1 Hi.out.1 h1
          obtain ⟨p', hI', hp'⟩ := hrel2
          obtain ⟨a', HB'⟩ := HB.out.next (L' := putC L (d.node (X i).h.id 0) ⟨ltUnlock (X i).h.word, ⟨#[]⟩, 0⟩) (X' := X) (H' := updF H i (-1)) Han.out Hi.out.2 (.inl hp')
          have HI' := Lib.hid hI'
          have Hleft : Hid (((leftN n H : Nat) : Int) = ((leftN n (updF H i (-1)) : Nat) : Int) + 1) := Lib.hid (by have := leftN_rel (H := H) Hi.out.1 (by omega); omega)
          obtain ⟨i1, i2, i3, i4⟩ := HI.out.says hd.out Hi.out.1 (by omega)
          have Hi4 := Lib.hid (And.intro i1 i2)
          obtain ⟨C, hr, hs⟩ := HG.out
          have Hr := Lib.hid hr
          have Hn2 := Lib.hid (show 0 ≤ (X i).h.word ∧ (X i).h.word < 18446744073709551616 by omega)
          have Q7 := Lib.hid (fun W => refNode_any d hd.out (X i).h.id 0 i3.1 i3.2 (by decide) (by have := hd.out.fa1; omega) W)
          have cH := (show St (Know.of w) _ (rowC _ _ _ _ (hRow n H) :: _) from hs.b2).row_cell (hRow_at H Hi.out.1)
          rw [h1] at cH
          clear hr HG hI' hp' HI HB i1 i2 i3 i4 h1
          go_upto_region 30 with (fail)
          clear cH
          go_cut [24] from 171 to 186 (fun v24 wx => ∃ br bi bw : Nat, v24 = (.pointer (some ⟨br, 0, none⟩)) ∧ St (Know.of w) wx (relL br bi bw (d.node (X i).h.id 0) (X i).h.word 0 ++ (exC n C :: memC bm bc L acc :: rowC (.slice (some ⟨gh, 0, none⟩) n ch) 3 1 n (hRow n H) :: rowC (.slice (some ⟨gx, 0, none⟩) n cx) 37 1 n (bsRow n bs) :: blk b1 (.cells #[.int .i64 (d).th, .int .i64 (d).sn, .int .i64 (d).no, .int .i64 (d).ch, .int .i64 (d).re, .int .i64 (d).fa, .int .u64 (d).cl] 29) :: blk b0 (.cells #[.int .i64 (d).th, .int .i64 (d).sn, .int .i64 (d).no, .int .i64 (d).ch, .int .i64 (d).re, .int .i64 (d).fa, .int .u64 (d).cl] 26) :: [])))
          case first =>
            as_aux_lemma =>
            have Hs := Lib.hid hs
            clear hs
            refine region_effectsK [false, false, false, false, false, true, true, false, false, false, false, false, true, true, true, true] (fun | 6 => some (.int .u64 (X i).h.id) | 13 => some (.int .u64 (X i).h.word) | _ => none) [5, 6, 12, 13, 14, 15] (fun | 6 => [5] | 13 => [12] | 14 => [13] | 15 => [14] | _ => [])
              (GR (Know.of w) (exC n C :: memC bm bc L acc :: rowC (.slice (some ⟨gh, 0, none⟩) n ch) 3 1 n (hRow n H) :: rowC (.slice (some ⟨gx, 0, none⟩) n cx) 37 1 n (bsRow n bs) :: blk b1 (.cells #[.int .i64 (d).th, .int .i64 (d).sn, .int .i64 (d).no, .int .i64 (d).ch, .int .i64 (d).re, .int .i64 (d).fa, .int .u64 (d).cl] 29) :: blk b0 (.cells #[.int .i64 (d).th, .int .i64 (d).sn, .int .i64 (d).no, .int .i64 (d).ch, .int .i64 (d).re, .int .i64 (d).fa, .int .u64 (d).cl] 26) :: []) [5, 6, 12, 13, 14, 15] (ReΦ (X i).h (d.node (X i).h.id 0)))
              (fun W => St (Know.of w) W (exC n C :: memC bm bc L acc :: rowC (.slice (some ⟨gh, 0, none⟩) n ch) 3 1 n (hRow n H) :: rowC (.slice (some ⟨gx, 0, none⟩) n cx) 37 1 n (bsRow n bs) :: blk b1 (.cells #[.int .i64 (d).th, .int .i64 (d).sn, .int .i64 (d).no, .int .i64 (d).ch, .int .i64 (d).re, .int .i64 (d).fa, .int .u64 (d).cl] 29) :: blk b0 (.cells #[.int .i64 (d).th, .int .i64 (d).sn, .int .i64 (d).no, .int .i64 (d).ch, .int .i64 (d).re, .int .i64 (d).fa, .int .u64 (d).cl] 26) :: [])) ?raS (by kernel_rfl) ?rhB ?rH ?rhaS ?rh0 ?rhI ?rhR ?rhE ?rhQ
            case rhB => as_aux_lemma => kernel_rfl
            case rH =>
              -- <rmH
              intro W2 hs
              have cx := (show St (Know.of w) W2 (rowC _ _ _ _ (bsRow n bs) :: _) from hs.b3).row_cell (bsRow_at bs Hi.out.1)
              have kc := hs.b5.k0
              clear hs
              simp only [withK]
              repeat (go_big_quiet_step ((go_at_call 21; exact pure_of (Q7.out _))))
              refine wpQuiet_nil ?_
              rfl
              -- rmH>
            case rhaS => rfl
            case rh0 => exact GR.start Hs.out
            case rhI => exact fun ρ W2 h => h.rest
            case rhR => exact fun ρ W2 W3 h hb => h.same hb
            case rhE =>
              refine ⟨?re5, ?re6, ?re12, ?re13, ?re14, ?re15, trivial⟩
              case re5 =>
                -- <rm5
                intro o ho ρ W2 h hcl h5 hd2 act hact
                obtain rfl := Option.some.inj ho
                replace hact : act = fillD _ ρ [] _ := hact
                obtain ⟨C, R', hx1, hs, hnext⟩ := h.step ReΦ.mono 5 [] (by decide) (by decide) (by decide) h5 (by simp)
                simp only [fillD] at hact
                subst hact
                have Hn := Lib.hid hnext
                clear hnext hx1 h hcl hd2 h5
                go_wp2_with fail
                refine (exHeld Hi.out.1 Hi4.out.1 rfl Hi4.out.2 Hr.out hs).mono ?_
                rintro e W3 ⟨va8, rfl, hs'⟩
                obtain ⟨a8, c8, rfl, _, _⟩ := hs'.row_read
                have Hs' := Lib.hid hs'
                clear hs hs'
                go_wp2
                exact ⟨rfl, _, rfl, fun u hu => (by cases hu), Hn.out _ _ W3 ⟨a8, c8, rfl, rfl⟩ Hs'.out⟩
                -- rm5>
              case re6 =>
                -- <rm6
                intro o ho ρ W2 h hcl h6 hd2 act hact
                obtain rfl := Option.some.inj ho
                replace hact : act = fillD _ ρ [5] _ := hact
                obtain ⟨v5, h5⟩ := Option.isSome_iff_exists.1 (hd2 5 (by show _ ∈ [5]; simp))
                obtain ⟨cs8, R8, ⟨a8, c8, rfl, rfl⟩, hs8⟩ := h.at 5 (by simp) h5
                simp only [fillD, h5, Option.getD_some, dstAt, List.getElem?_cons_succ, List.getElem?_cons_zero, Option.bind_some, Option.bind_none, Act.put, List.setIfInBounds_toArray, List.set_cons_zero, List.set_cons_succ] at hact
                subst hact
                have H := Lib.hid (h.know ReΦ.mono 6 (by decide) (by simp) h6 _ ⟨rfl, rfl⟩)
                clear h hs8 hcl hd2 h6 h5
                go_wp2
                exact ⟨rfl, _, rfl, fun u hu => Option.some.inj hu, H.out⟩
                -- rm6>
              case re12 =>
                -- <rm12
                intro o ho ρ W2 h hcl h12 hd2 act hact
                obtain rfl := Option.some.inj ho
                replace hact : act = fillD _ ρ [] _ := hact
                obtain ⟨C, R', hx1, hs, hnext⟩ := h.step ReΦ.mono 12 [] (by decide) (by decide) (by decide) h12 (by simp)
                simp only [fillD] at hact
                subst hact
                have Hn := Lib.hid hnext
                clear hnext hx1 h hcl hd2 h12
                go_wp2_with fail
                refine (exHeld Hi.out.1 Hi4.out.1 rfl Hi4.out.2 Hr.out hs).mono ?_
                rintro e W3 ⟨va8, rfl, hs'⟩
                obtain ⟨a8, c8, rfl, _, _⟩ := hs'.row_read
                have Hs' := Lib.hid hs'
                clear hs hs'
                go_wp2
                exact ⟨rfl, _, rfl, fun u hu => (by cases hu), Hn.out _ _ W3 ⟨a8, c8, rfl, rfl⟩ Hs'.out⟩
                -- rm12>
              case re13 =>
                -- <rm13
                intro o ho ρ W2 h hcl h13 hd2 act hact
                obtain rfl := Option.some.inj ho
                replace hact : act = fillD _ ρ [12] _ := hact
                obtain ⟨v12, h12⟩ := Option.isSome_iff_exists.1 (hd2 12 (by show _ ∈ [12]; simp))
                obtain ⟨cs8, R8, ⟨a8, c8, rfl, rfl⟩, hs8⟩ := h.at 12 (by simp) h12
                simp only [fillD, h12, Option.getD_some, dstAt, List.getElem?_cons_succ, List.getElem?_cons_zero, Option.bind_some, Option.bind_none, Act.put, List.setIfInBounds_toArray, List.set_cons_zero, List.set_cons_succ] at hact
                subst hact
                have H := Lib.hid (h.know ReΦ.mono 13 (by decide) (by simp) h13 _ ⟨rfl, rfl⟩)
                clear h hs8 hcl hd2 h13 h12
                go_wp2
                exact ⟨rfl, _, rfl, fun u hu => Option.some.inj hu, H.out⟩
                -- rm13>
              case re14 =>
                -- <rm14
                intro o ho ρ W2 h hcl h14 hd2 act hact
                obtain rfl := Option.some.inj ho
                replace hact : act = fillD _ ρ [13] _ := hact
                obtain ⟨v13, h13⟩ := Option.isSome_iff_exists.1 (hd2 13 (by show _ ∈ [13]; simp))
                obtain ⟨cs8, R8, ⟨rfl, rfl⟩, hs8⟩ := h.at 13 (by simp) h13
                obtain ⟨C', R', hx1, hs, hnext⟩ := h.step ReΦ.mono 14 [] (by decide) (by decide) (by decide) h14 (by simp)
                simp only [fillD, h13, Option.getD_some, dstAt, List.getElem?_cons_succ, List.getElem?_cons_zero, Option.bind_some, Option.bind_none, Act.put, List.setIfInBounds_toArray, List.set_cons_zero, List.set_cons_succ] at hact
                subst hact
                have Hn := Lib.hid hnext
                clear hnext hx1 h hcl hd2 h14 h13 hs8
                go_wp2_with fail
                refine (newRelease_st hs).mono ?_
                rintro e W3 ⟨br, bi, bw, rfl, hs'⟩
                have Hs' := Lib.hid hs'
                clear hs hs'
                go_wp2
                exact ⟨rfl, _, rfl, fun u hu => (by cases hu), Hn.out _ _ W3 ⟨br, bi, bw, rfl, rfl⟩ Hs'.out⟩
                -- rm14>
              case re15 =>
                -- <rm15
                intro o ho ρ W2 h hcl h15 hd2 act hact
                obtain rfl := Option.some.inj ho
                replace hact : act = fillD _ ρ [14] _ := hact
                obtain ⟨v14, h14⟩ := Option.isSome_iff_exists.1 (hd2 14 (by show _ ∈ [14]; simp))
                obtain ⟨cs8, R8, ⟨br, bi, bw, rfl, rfl⟩, hs8⟩ := h.at 14 (by simp) h14
                simp only [fillD, h14, Option.getD_some, dstAt, List.getElem?_cons_succ, List.getElem?_cons_zero, Option.bind_some, Option.bind_none, Act.put, List.setIfInBounds_toArray, List.set_cons_zero, List.set_cons_succ] at hact
                subst hact
                have H := Lib.hid (h.know ReΦ.mono 15 (by decide) (by simp) h15 (.pointer (some ⟨br, 0, none⟩)) ⟨br, rfl, rfl, reUpd h15 h14⟩)
                clear h hs8 hcl hd2 h15 h14
                go_wp2
                exact ⟨rfl, _, rfl, fun u hu => (by cases hu), H.out⟩
                -- rm15>
            case rhQ =>
              -- <rmQ
              intro ρ W2 h hall
              obtain ⟨v5, h5⟩ := Option.isSome_iff_exists.1 (hall 5 (by simp))
              obtain ⟨v6, h6⟩ := Option.isSome_iff_exists.1 (hall 6 (by simp))
              obtain ⟨v12, h12⟩ := Option.isSome_iff_exists.1 (hall 12 (by simp))
              obtain ⟨v13, h13⟩ := Option.isSome_iff_exists.1 (hall 13 (by simp))
              obtain ⟨v14, h14⟩ := Option.isSome_iff_exists.1 (hall 14 (by simp))
              obtain ⟨v15, h15⟩ := Option.isSome_iff_exists.1 (hall 15 (by simp))
              obtain ⟨_, _, ⟨br', rfl, _, e14⟩, _⟩ := h.at 15 (by simp) h15
              obtain ⟨cs8, R8, ⟨br, bi, bw, rfl, rfl⟩, hs8⟩ := h.at 14 (by simp) h14
              obtain rfl : br' = br := by
                rw [h14] at e14
                injection e14 with e14
                injection e14 with e14
                injection e14 with e14
                injection e14 with e14
                exact e14.symm
              rw [← List.append_assoc] at hs8
              have Hs8 := Lib.hid hs8.left
              simp only [fillD, h5, h6, h12, h13, h14, h15, Option.getD_some, dstAt, List.getElem?_cons_succ, List.getElem?_cons_zero, Option.bind_some, Option.bind_none, Act.put, List.setIfInBounds_toArray, List.set_cons_zero, List.set_cons_succ]
              clear hall h h5 h6 h12 h13 h14 h15 hs8 e14
              go_wp2
              go_meet
              exact ⟨br', bi, bw, rfl, Hs8.out⟩
              -- rmQ>
          case rest =>
          clear hs
          obtain ⟨br, bi, bw, rfl, hs⟩ := hcut
          apply_assumption
          have q := relStep_st Hn2.out (show acc ≤ 1000000000000 by have := Hac.out; have := Hk3.out; have := HM.out; omega) (hs.re [0, 1, 2, 4, 3] rfl)
          have Q := Lib.hid q
          clear q hs
          go_wp2_with fail
          refine (Q.out).mono ?_
          clear Q
          rintro e w7 ⟨rfl, hs⟩
          have hs : St (Know.of w) w7 (memC bm bc (putC L (d.node (X i).h.id 0) ⟨ltUnlock (X i).h.word, ⟨#[]⟩, 0⟩) (acc + 1) :: exC n C :: rowC (.slice (some ⟨gh, 0, none⟩) n ch) 3 1 n (hRow n H) :: rowC (.slice (some ⟨gx, 0, none⟩) n cx) 37 1 n (bsRow n bs) :: blk b1 (.cells #[.int .i64 (d).th, .int .i64 (d).sn, .int .i64 (d).no, .int .i64 (d).ch, .int .i64 (d).re, .int .i64 (d).fa, .int .u64 (d).cl] 29) :: blk b0 (.cells #[.int .i64 (d).th, .int .i64 (d).sn, .int .i64 (d).no, .int .i64 (d).ch, .int .i64 (d).re, .int .i64 (d).fa, .int .u64 (d).cl] 26) :: []) := hs.tail.tail.tail
          have hs2 : St (Know.of w) w7 (rowC (.slice (some ⟨gh, 0, none⟩) n ch) 3 1 n (hRow n H) :: memC bm bc (putC L (d.node (X i).h.id 0) ⟨ltUnlock (X i).h.word, ⟨#[]⟩, 0⟩) (acc + 1) :: exC n C :: rowC (.slice (some ⟨gx, 0, none⟩) n cx) 37 1 n (bsRow n bs) :: blk b1 (.cells #[.int .i64 (d).th, .int .i64 (d).sn, .int .i64 (d).no, .int .i64 (d).ch, .int .i64 (d).re, .int .i64 (d).fa, .int .u64 (d).cl] 29) :: blk b0 (.cells #[.int .i64 (d).th, .int .i64 (d).sn, .int .i64 (d).no, .int .i64 (d).ch, .int .i64 (d).re, .int .i64 (d).fa, .int .u64 (d).cl] 26) :: []) := hs.b2
          have fz := hs2.row_free (by have := Hnn.out; omega)
          have cH := hs2.row_cell (hRow_at H Hi.out.1)
          have hset := hs2.row_set (j := i) (.int .i64 (-1))
          rw [hRow_set] at hset
          clear hs hs2
          rw [Hleft.out]
          clear Hleft
          generalize updF H i (-1) = H' at *
          generalize putC L (d.node (X i).h.id 0) ⟨ltUnlock (X i).h.word, ⟨#[]⟩, 0⟩ = L' at *
          go_upto_region 33 with (fail)
          refine wp_ck hset ?_
          clear hset fz cH
          intro w8 hs
          have HG' : Hid (ExG (Know.of w) bm bc d n (fun i => key40 (f2 i)) bs X L' (acc + 1) (rowC (.slice (some ⟨gh, 0, none⟩) n ch) 3 1 n (hRow n H') :: rowC (.slice (some ⟨gx, 0, none⟩) n cx) 37 1 n (bsRow n bs) :: blk b1 (.cells #[.int .i64 (d).th, .int .i64 (d).sn, .int .i64 (d).no, .int .i64 (d).ch, .int .i64 (d).re, .int .i64 (d).fa, .int .u64 (d).cl] 29) :: blk b0 (.cells #[.int .i64 (d).th, .int .i64 (d).sn, .int .i64 (d).no, .int .i64 (d).ch, .int .i64 (d).re, .int .i64 (d).fa, .int .u64 (d).cl] 26) :: []) w8) := Lib.hid ⟨C, Hr.out, (show St (Know.of w) w8 (rowC (.slice (some ⟨gh, 0, none⟩) n ch) 3 1 n (hRow n H') :: memC bm bc L' (acc + 1) :: exC n C :: rowC (.slice (some ⟨gx, 0, none⟩) n cx) 37 1 n (bsRow n bs) :: blk b1 (.cells #[.int .i64 (d).th, .int .i64 (d).sn, .int .i64 (d).no, .int .i64 (d).ch, .int .i64 (d).re, .int .i64 (d).fa, .int .u64 (d).cl] 29) :: blk b0 (.cells #[.int .i64 (d).th, .int .i64 (d).sn, .int .i64 (d).no, .int .i64 (d).ch, .int .i64 (d).re, .int .i64 (d).fa, .int .u64 (d).cl] 26) :: []) from hs).re [2, 1, 0, 3, 4, 5] rfl⟩
          have hln : leftN n H' ≤ 1000 := by
            have := Hnn.out
            unfold leftN
            have := List.length_filter_le (fun i => H' i != -1) (List.range n)
            rw [List.length_range] at this
            omega
          clear hs
          go_wp2
          go_roundw
          case rel => exact ⟨k + 1, acc + 1, a', X, H', p', L', by first | rfl | (congr 1; omega), by go_num, Lib.hid (by have := Hk3.out; omega), by have := Hac.out; omega, HI', HB', HG'⟩
          case measure => have := Hk3.out; have := HM.out; simp [intOf]; omega
          -- MC>
        ·
          -- <MD
          obtain ⟨a', HB'⟩ := HB.out.next (L' := L) (X' := X) (H' := H) (p' := p) Han.out Hi.out.2 (.inr ⟨rfl, rfl, rfl, rfl, .inl h1⟩)
          obtain ⟨C, hr, hs⟩ := HG.out
          have cH := (show St (Know.of w) _ (rowC _ _ _ _ (hRow n H) :: _) from hs.b2).row_cell (hRow_at H Hi.out.1)
          rw [h1] at cH
          clear hs hr h1 HB
          as_aux_lemma =>
          go_wp2
          go_roundw
          case rel => exact ⟨k + 1, acc, a', X, H, p, L, rfl, by go_num, Lib.hid (by have := Hk3.out; omega), by have := Hac.out; omega, HI, HB', HG⟩
          case measure => have := Hk3.out; have := HM.out; simp [intOf]; omega
          -- MD>
  case rest =>
  clear HG HI HB Hl0
  obtain ⟨rfl, acc, X, H, HG⟩ := hcut
  apply_assumption
  obtain ⟨C, hr, hs⟩ := HG.out
  have hs : St (Know.of w) wc (memC bm bc L0 acc :: blk b1 (.cells #[.int .i64 (d).th, .int .i64 (d).sn, .int .i64 (d).no, .int .i64 (d).ch, .int .i64 (d).re, .int .i64 (d).fa, .int .u64 (d).cl] 29) :: blk b0 (.cells #[.int .i64 (d).th, .int .i64 (d).sn, .int .i64 (d).no, .int .i64 (d).ch, .int .i64 (d).re, .int .i64 (d).fa, .int .u64 (d).cl] 26) :: []) := hs.re [1, 0, 2, 3, 4, 5] rfl |>.sub (.cons_cons _ (.cons _ (.cons _ (.cons _ (List.Sublist.refl _)))))
  have kc := hs.b2.k0
  have q := kitView_st (d := d) hs
  have Q := Lib.hid q
  clear hs q HG hr
  go_wp2_with fail
  refine (Q.out).mono ?_
  clear Q kc
  rintro e w5 ⟨g, rfl, hle, hg, hs⟩
  obtain ⟨K2, hK2⟩ : ∃ K2, K2 = (Know.of w).add g (.cells (flat L0).toArray 63) := ⟨_, rfl⟩
  rw [← hK2] at hle hg hs
  have Hle := Lib.hid hle
  have q := viewSound_st hd.out HT.out.1.cels HT.out.1.clen (HT.out.1.snd hd.out (by rw [hch.out]; have := HT.out.2.len; omega)) hg hs
  have Q := Lib.hid q
  clear q hs hg hK2 hle
  generalize L0.length = n5 at *
  go_wp2_with fail
  refine (Q.out).mono ?_
  clear Q
  rintro e w6 ⟨rfl, hs⟩
  have Hb := Lib.hid (hs.below Hle.out)
  clear hs
  go_wp2
  go_ret
  exact ⟨rfl, Hb.out⟩
end Go.Proofs.YtlpdhhhgckpcfaaGreat
