/- blinktreekit's Put: a page laid into a node's cells. -/
import Derived.Test.YtfgjanponijkhaaNodeSame
namespace Go.Proofs.Ytfgjanponijkhaa
open Go.RowKit
set_option maxRecDepth 100000

/-- The cells behind Put: the first three, and the slots. -/
def put3 (d : Cfg) (id : Int) (pg : Pg) (L : List Cel) : List Cel :=
  putC (putC (putC L (d.node id 1) ⟨pg.sl.length, ⟨#[]⟩, pg.lev⟩) (d.node id 2) ⟨0, pg.hi, b01 pg.la⟩) (d.node id 3) ⟨pg.ri, ⟨#[]⟩, 0⟩
def putSl (d : Cfg) (id : Int) : Nat → List Sl → List Cel → List Cel
  | _, [], L => L
  | i, s :: sl, L => putSl d id (i + 1) sl (putC L (d.node id (4 + i)) ⟨s.r, s.k, 0⟩)
def putPg (d : Cfg) (id : Int) (pg : Pg) (L : List Cel) : List Cel := putSl d id 0 pg.sl (put3 d id pg L)

section
variable {K : Know} {w : World} {F : List Comp} {pg : Pg} {a : Option Addr} {cap : Nat} {d : Cfg} {id : Int} {bm bc : Nat} {L : List Cel} {acc : Nat}
set_option maxHeartbeats 4000000 in
theorem kitPutG_st (hd : d.Ok) (hid : 0 ≤ id ∧ id < 18446744073709551616) (hlev : 0 ≤ pg.lev ∧ pg.lev < 1000000) (hle : (pg.sl.length : Int) ≤ d.fa)
    (hsl : ∀ W, St K W F → SlAt W a pg.sl) (hs : St K w (memC bm bc L acc :: F)) :
    Calls Try.prog 21 #[.agg #[.int .i64 d.th, .int .i64 d.sn, .int .i64 d.no, .int .i64 d.ch, .int .i64 d.re, .int .i64 d.fa, .int .u64 d.cl], .pointer (some ⟨bm, 0, none⟩), .int .u64 id, .agg #[.int .i64 (pg).lev, (.slice a pg.sl.length cap), .string (pg).hi, .bool (pg).la, .int .u64 (pg).ri]] w fun e w' => e = .returned (.tuple #[]) ∧
      St K w' (memC bm bc (putPg d id pg L) acc :: F) := by
  have Hsl := Lib.hid hsl
  clear hsl
  obtain ⟨n, hn⟩ : ∃ n, n = pg.sl.length := ⟨_, rfl⟩
  have hfa := hd.fa2
  have Qn := Lib.hid (fun (k : Int) (hk : 0 ≤ k ∧ k < d.fa + 4) w => refNode_any d hd id k hid.1 hid.2 hk.1 hk.2 w)
  have e3 : put3 d id pg L = putC (putC (putC L (d.node id 1) ⟨n, ⟨#[]⟩, pg.lev⟩) (d.node id 2) ⟨0, pg.hi, b01 pg.la⟩) (d.node id 3) ⟨pg.ri, ⟨#[]⟩, 0⟩ := by unfold put3; rw [hn]
  obtain ⟨Le, hLe⟩ : ∃ Le, Le = putPg d id pg L := ⟨_, rfl⟩
  rw [← hn] at hle ⊢
  rw [← hLe]
  obtain ⟨o, ho⟩ : ∃ o, o = pg.la := ⟨_, rfl⟩
  rw [← ho] at e3 ⊢
  have Hn := Lib.hid hn
  have HLe := Lib.hid hLe
  have E3 := Lib.hid e3
  clear hn hLe e3 ho
  cases o with
  | true =>
    have hs := (hs.made (.cells #[.int .i64 d.th, .int .i64 d.sn, .int .i64 d.no, .int .i64 d.ch, .int .i64 d.re, .int .i64 d.fa, .int .u64 d.cl] 27)).made (.cells #[.int .i64 pg.lev, .slice a n cap, .string pg.hi, .bool true, .int .u64 pg.ri] 25)
    rw [World.size_alloc] at hs
    have hs := hs.b2
    go_enter Try.func21, Try.ntmps21
    go_upto_region 1 with (fail)
    refine wp_ck hs ?_
    generalize w.heap.size + 1 = bp at *
    generalize w.heap.size = bcf at *
    clear hs
    intro W hs
    have kp := hs.k1
    have kc := hs.k2
    refine region_tail 12 (by kernel_rfl) (by as_aux_lemma => kernel_rfl) ?_
    simp only [List.take_succ_cons, List.take_zero, List.drop_succ_cons, List.drop_zero]
    repeat (go_big_quiet_step ((go_at_call 22; exact pure_of (Qn.out _ (by omega) _))))
    refine wpQuiet_nil ?_
    intro w5 hb5
    have hs := hs.same hb5
    clear kp kc hb5
    go_wp2_with fail
    refine (poke_st (c := ⟨n, ⟨#[]⟩, pg.lev⟩) hs).mono ?_
    clear hs
    rintro e w6 ⟨rfl, hs⟩
    have kp := hs.k1
    have kp2 := (hs.made (.cells #[.int .u64 0, .string pg.hi, .int .u64 0] 41)).k2
    have kh2 := (hs.made (.cells #[.int .u64 0, .string pg.hi, .int .u64 0] 41)).k0
    have fh2 := (hs.made (.cells #[.int .u64 0, .string pg.hi, .int .u64 0] 41)).f0
    have hs := hs.made (.cells #[.int .u64 0, .string pg.hi, .int .u64 1] 41)
    go_upto_region 5 with (fail)
    refine wp_ck hs ?_
    generalize w6.heap.size = bh at *
    clear hs kp kp2 kh2 fh2
    intro W2 hs
    have kh := hs.k0
    have kc := hs.tail.k2
    refine region_tail 5 (by kernel_rfl) (by as_aux_lemma => kernel_rfl) ?_
    simp only [List.take_succ_cons, List.take_zero, List.drop_succ_cons, List.drop_zero]
    repeat (go_big_quiet_step ((go_at_call 22; exact pure_of (Qn.out _ (by omega) _))))
    refine wpQuiet_nil ?_
    intro w7 hb7
    have hs := (hs.same hb7).b1
    clear kh kc hb7
    go_wp2_with fail
    refine (poke_st (c := ⟨0, pg.hi, 1⟩) hs).mono ?_
    clear hs
    rintro e w8 ⟨rfl, hs⟩
    have hs := hs.drop1
    have kp := hs.k1
    have kc := hs.k2
    go_upto_region 6 with (fail)
    refine region_tail 7 (by kernel_rfl) (by as_aux_lemma => kernel_rfl) ?_
    simp only [List.take_succ_cons, List.take_zero, List.drop_succ_cons, List.drop_zero]
    repeat (go_big_quiet_step ((go_at_call 22; exact pure_of (Qn.out _ (by omega) _))))
    refine wpQuiet_nil ?_
    intro w9 hb9
    have hs := hs.same hb9
    clear kp kc hb9
    go_wp2_with fail
    refine (poke_st (c := ⟨pg.ri, ⟨#[]⟩, 0⟩) hs).mono ?_
    clear hs
    rintro e w10 ⟨rfl, hs⟩
    have e3 := E3.out
    rw [show b01 true = 1 from rfl] at e3
    rw [← e3] at hs
    clear e3
    go_wp2
    go_loopw [9] (fun v wr => ∃ (i : Nat) (L2 : List Cel), i ≤ n ∧ v = .int .i64 i ∧ Le = putSl d id i (pg.sl.drop i) L2 ∧
      St K wr (memC bm bc L2 acc :: blk bp (.cells #[.int .i64 pg.lev, .slice a n cap, .string pg.hi, .bool true, .int .u64 pg.ri] 25) :: blk bcf (.cells #[.int .i64 d.th, .int .i64 d.sn, .int .i64 d.no, .int .i64 d.ch, .int .i64 d.re, .int .i64 d.fa, .int .u64 d.cl] 27) :: F)) (fun v _ => n - (intOf v).toNat)
    case atStart => exact ⟨0, put3 d id pg L, by omega, rfl, HLe.out, hs⟩
    case round =>
      clear hs
      obtain ⟨i, L2, hi, rfl, hL2, hs⟩ := hrel
      have HL2 := Lib.hid hL2
      clear hL2
      have kp := hs.k1
      have kc := hs.k2
      by_cases hlt : i < n
      · have hl' : i < pg.sl.length := by rw [← Hn.out]; exact hlt
        have hsl := Hsl.out _ hs.tail.tail.tail
        obtain ⟨b1, off1, rfl, _, c0, c1⟩ := hsl.2 i pg.sl[i] (List.getElem?_eq_getElem hl')
        have hd2 : pg.sl.drop i = pg.sl[i] :: pg.sl.drop (i + 1) := List.drop_eq_getElem_cons hl'
        have hnext : Le = putSl d id (i + 1) (pg.sl.drop (i + 1)) (putC L2 (d.node id (4 + (i : Int))) ⟨pg.sl[i].r, pg.sl[i].k, 0⟩) := by rw [HL2.out, hd2]; rfl
        have Hx := Lib.hid hnext
        generalize pg.sl[i] = u at *
        clear hl' hsl hd2 hnext
        go_upto_region 10 with (fail)
        refine region_tail 19 (by kernel_rfl) (by as_aux_lemma => kernel_rfl) ?_
        simp only [List.take_succ_cons, List.take_zero, List.drop_succ_cons, List.drop_zero]
        repeat (go_big_quiet_step ((go_at_call 22; exact pure_of (Qn.out _ (by omega) _))))
        refine wpQuiet_nil ?_
        intro w11 hb11
        have hs := hs.same hb11
        clear kp kc c0 c1 hb11
        go_wp2_with fail
        refine (poke_st (c := ⟨u.r, u.k, 0⟩) hs).mono ?_
        clear hs
        rintro e w12 ⟨rfl, hs⟩
        go_wp2
        go_roundw
        case rel => exact ⟨i + 1, _, by omega, by go_num, Hx.out, hs⟩
        case measure => simp [intOf]; omega
      · obtain rfl : i = n := by omega
        have e : Le = L2 := by rw [HL2.out, List.drop_eq_nil_of_le (by rw [← Hn.out]; exact Nat.le_refl _)]; rfl
        rw [← e] at hs
        clear e
        go_wp2
        go_end0
        exact ⟨rfl, hs.drop1.drop1⟩
  | false =>
    have hs := (hs.made (.cells #[.int .i64 d.th, .int .i64 d.sn, .int .i64 d.no, .int .i64 d.ch, .int .i64 d.re, .int .i64 d.fa, .int .u64 d.cl] 27)).made (.cells #[.int .i64 pg.lev, .slice a n cap, .string pg.hi, .bool false, .int .u64 pg.ri] 25)
    rw [World.size_alloc] at hs
    have hs := hs.b2
    go_enter Try.func21, Try.ntmps21
    go_upto_region 1 with (fail)
    refine wp_ck hs ?_
    generalize w.heap.size + 1 = bp at *
    generalize w.heap.size = bcf at *
    clear hs
    intro W hs
    have kp := hs.k1
    have kc := hs.k2
    refine region_tail 12 (by kernel_rfl) (by as_aux_lemma => kernel_rfl) ?_
    simp only [List.take_succ_cons, List.take_zero, List.drop_succ_cons, List.drop_zero]
    repeat (go_big_quiet_step ((go_at_call 22; exact pure_of (Qn.out _ (by omega) _))))
    refine wpQuiet_nil ?_
    intro w5 hb5
    have hs := hs.same hb5
    clear kp kc hb5
    go_wp2_with fail
    refine (poke_st (c := ⟨n, ⟨#[]⟩, pg.lev⟩) hs).mono ?_
    clear hs
    rintro e w6 ⟨rfl, hs⟩
    have kp := hs.k1
    have hs := hs.made (.cells #[.int .u64 0, .string pg.hi, .int .u64 0] 41)
    have kp2 := hs.k2
    go_upto_region 5 with (fail)
    refine wp_ck hs ?_
    generalize w6.heap.size = bh at *
    clear hs kp kp2
    intro W2 hs
    have kh := hs.k0
    have kc := hs.tail.k2
    refine region_tail 5 (by kernel_rfl) (by as_aux_lemma => kernel_rfl) ?_
    simp only [List.take_succ_cons, List.take_zero, List.drop_succ_cons, List.drop_zero]
    repeat (go_big_quiet_step ((go_at_call 22; exact pure_of (Qn.out _ (by omega) _))))
    refine wpQuiet_nil ?_
    intro w7 hb7
    have hs := (hs.same hb7).b1
    clear kh kc hb7
    go_wp2_with fail
    refine (poke_st (c := ⟨0, pg.hi, 0⟩) hs).mono ?_
    clear hs
    rintro e w8 ⟨rfl, hs⟩
    have hs := hs.drop1
    have kp := hs.k1
    have kc := hs.k2
    go_upto_region 6 with (fail)
    refine region_tail 7 (by kernel_rfl) (by as_aux_lemma => kernel_rfl) ?_
    simp only [List.take_succ_cons, List.take_zero, List.drop_succ_cons, List.drop_zero]
    repeat (go_big_quiet_step ((go_at_call 22; exact pure_of (Qn.out _ (by omega) _))))
    refine wpQuiet_nil ?_
    intro w9 hb9
    have hs := hs.same hb9
    clear kp kc hb9
    go_wp2_with fail
    refine (poke_st (c := ⟨pg.ri, ⟨#[]⟩, 0⟩) hs).mono ?_
    clear hs
    rintro e w10 ⟨rfl, hs⟩
    have e3 := E3.out
    rw [show b01 false = 0 from rfl] at e3
    rw [← e3] at hs
    clear e3
    go_wp2
    go_loopw [9] (fun v wr => ∃ (i : Nat) (L2 : List Cel), i ≤ n ∧ v = .int .i64 i ∧ Le = putSl d id i (pg.sl.drop i) L2 ∧
      St K wr (memC bm bc L2 acc :: blk bp (.cells #[.int .i64 pg.lev, .slice a n cap, .string pg.hi, .bool false, .int .u64 pg.ri] 25) :: blk bcf (.cells #[.int .i64 d.th, .int .i64 d.sn, .int .i64 d.no, .int .i64 d.ch, .int .i64 d.re, .int .i64 d.fa, .int .u64 d.cl] 27) :: F)) (fun v _ => n - (intOf v).toNat)
    case atStart => exact ⟨0, put3 d id pg L, by omega, rfl, HLe.out, hs⟩
    case round =>
      clear hs
      obtain ⟨i, L2, hi, rfl, hL2, hs⟩ := hrel
      have HL2 := Lib.hid hL2
      clear hL2
      have kp := hs.k1
      have kc := hs.k2
      by_cases hlt : i < n
      · have hl' : i < pg.sl.length := by rw [← Hn.out]; exact hlt
        have hsl := Hsl.out _ hs.tail.tail.tail
        obtain ⟨b1, off1, rfl, _, c0, c1⟩ := hsl.2 i pg.sl[i] (List.getElem?_eq_getElem hl')
        have hd2 : pg.sl.drop i = pg.sl[i] :: pg.sl.drop (i + 1) := List.drop_eq_getElem_cons hl'
        have hnext : Le = putSl d id (i + 1) (pg.sl.drop (i + 1)) (putC L2 (d.node id (4 + (i : Int))) ⟨pg.sl[i].r, pg.sl[i].k, 0⟩) := by rw [HL2.out, hd2]; rfl
        have Hx := Lib.hid hnext
        generalize pg.sl[i] = u at *
        clear hl' hsl hd2 hnext
        go_upto_region 10 with (fail)
        refine region_tail 19 (by kernel_rfl) (by as_aux_lemma => kernel_rfl) ?_
        simp only [List.take_succ_cons, List.take_zero, List.drop_succ_cons, List.drop_zero]
        repeat (go_big_quiet_step ((go_at_call 22; exact pure_of (Qn.out _ (by omega) _))))
        refine wpQuiet_nil ?_
        intro w11 hb11
        have hs := hs.same hb11
        clear kp kc c0 c1 hb11
        go_wp2_with fail
        refine (poke_st (c := ⟨u.r, u.k, 0⟩) hs).mono ?_
        clear hs
        rintro e w12 ⟨rfl, hs⟩
        go_wp2
        go_roundw
        case rel => exact ⟨i + 1, _, by omega, by go_num, Hx.out, hs⟩
        case measure => simp [intOf]; omega
      · obtain rfl : i = n := by omega
        have e : Le = L2 := by rw [HL2.out, List.drop_eq_nil_of_le (by rw [← Hn.out]; exact Nat.le_refl _)]; rfl
        rw [← e] at hs
        clear e
        go_wp2
        go_end0
        exact ⟨rfl, hs.drop1.drop1⟩
theorem kitPut_st (hd : d.Ok) (hid : 0 ≤ id ∧ id < 18446744073709551616) (hlev : 0 ≤ pg.lev ∧ pg.lev < 1000000) (hle : (pg.sl.length : Int) ≤ d.fa)
    (hs : St K w (memC bm bc L acc :: rowC (.slice a pg.sl.length cap) 132 2 pg.sl.length (slRow pg.sl) :: F)) :
    Calls Try.prog 21 #[.agg #[.int .i64 d.th, .int .i64 d.sn, .int .i64 d.no, .int .i64 d.ch, .int .i64 d.re, .int .i64 d.fa, .int .u64 d.cl], .pointer (some ⟨bm, 0, none⟩), .int .u64 id, .agg #[.int .i64 (pg).lev, (.slice a pg.sl.length cap), .string (pg).hi, .bool (pg).la, .int .u64 (pg).ri]] w fun e w' => e = .returned (.tuple #[]) ∧
      St K w' (memC bm bc (putPg d id pg L) acc :: rowC (.slice a pg.sl.length cap) 132 2 pg.sl.length (slRow pg.sl) :: F) := by
  have hf := hd.fa2
  exact kitPutG_st hd hid hlev hle (fun W h => h.row_slots (by omega)) hs
end
end Go.Proofs.Ytfgjanponijkhaa
