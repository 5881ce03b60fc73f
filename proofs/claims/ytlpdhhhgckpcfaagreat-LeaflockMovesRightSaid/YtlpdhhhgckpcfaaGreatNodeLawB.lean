
/- The reader of a node with nobody else running. A reader that goes on has not made all its steps. blinktreekit's Put: a page laid into a node's cells. What Put makes of the cells (pure). A reader with nobody else running, from the start and behind a change of the latch (pure). -/
import Derived.Test.YtlpdhhhgckpcfaaGreatNodeB
namespace Go.Proofs.YtlpdhhhgckpcfaaGreat
open Go.RowKit

/-- What the cells of a node say of its page. -/
structure PageAt (d : Cfg) (id : Int) (L : List Cel) (pg : Pg) : Prop where
  n : (getC L (d.node id 1)).n = pg.sl.length
  lev : wrap64 (getC L (d.node id 1)).m = pg.lev
  hi : (getC L (d.node id 2)).k = pg.hi
  la : decide ((getC L (d.node id 2)).m = 1) = pg.la
  ri : (getC L (d.node id 3)).n = pg.ri
  le : (pg.sl.length : Int) ≤ d.fa
  sl : ∀ (i : Nat) (s : Sl), pg.sl[i]? = some s → (getC L (d.slot id i)).k = s.k ∧ (getC L (d.slot id i)).n = s.r

section
variable {d : Cfg} {id : Int} {L : List Cel} {pg : Pg}

/-- The slots, one after the other. -/
theorem rd_slots (h : PageAt d id L pg) : ∀ (m : Nat) (sl : List Sl) (s : RdS), sl ++ pg.sl.drop sl.length = pg.sl → m = (pg.sl.drop sl.length).length → 0 < m → s.pc = 4 → s.left = m → s.pg = ⟨pg.lev, sl, pg.hi, pg.la, pg.ri⟩ →
    it (rdStep d id L) m s = ⟨5, pg, 0, s.word, s.t⟩ := by
  intro m
  induction m with
  | zero => intro sl s _ _ h0; omega
  | succ m ih =>
    intro sl s happ hm _ hpc hleft hpg
    obtain ⟨pc, spg, left, word, t⟩ := s
    simp only at hpc hleft hpg
    subst hpc hleft hpg
    have hlt : sl.length < pg.sl.length := by simp at hm; omega
    obtain ⟨x, hx⟩ : ∃ x, pg.sl[sl.length]? = some x := ⟨_, List.getElem?_eq_getElem hlt⟩
    obtain ⟨hk, hr⟩ := h.sl _ _ hx
    have hd : pg.sl.drop sl.length = x :: pg.sl.drop (sl.length + 1) := by
      rw [List.drop_eq_getElem_cons hlt]
      congr 1
      rw [List.getElem?_eq_getElem hlt] at hx
      exact Option.some.inj hx
    have e : rdStep d id L ⟨4, ⟨pg.lev, sl, pg.hi, pg.la, pg.ri⟩, m + 1, word, t⟩ = ⟨if m = 0 then 5 else 4, ⟨pg.lev, sl ++ [x], pg.hi, pg.la, pg.ri⟩, m, word, t⟩ := by
      simp only [rdStep, Pg.push, hk, hr]
      rw [show m + 1 - 1 = m by omega]
    show it (rdStep d id L) m (rdStep d id L _) = _
    rw [e]
    have happ2 : (sl ++ [x]) ++ pg.sl.drop (sl ++ [x]).length = pg.sl := by
      rw [List.length_append, List.length_singleton, List.append_assoc, List.singleton_append, ← hd]
      exact happ
    by_cases hm0 : m = 0
    · subst hm0
      have hnil : pg.sl.drop (sl.length + 1) = [] := by
        rw [hd] at hm
        simp only [List.length_cons] at hm
        exact List.eq_nil_of_length_eq_zero (by omega)
      have : sl ++ [x] = pg.sl := by
        rw [hd, hnil] at happ
        exact happ
      rw [if_pos rfl, this]
      rfl
    · rw [if_neg hm0]
      exact ih (sl ++ [x]) _ happ2 (by rw [hd] at hm; simp only [List.length_cons] at hm; rw [List.length_append, List.length_singleton]; omega) (by omega) rfl rfl rfl

theorem rd_fix {s : RdS} (h : s.pc = 6) : rdStep d id L s = s := by
  obtain ⟨pc, pg, left, word, t⟩ := s
  simp only at h; subst h; rfl

/-- Nobody writes: the page is read and found unchanged. -/
theorem rd_final (h : PageAt d id L pg) (hc : ltChg (getC L (d.node id 0)).n = false) {s : RdS} (hs : s.pc = 0) {N : Nat} (hN : pg.sl.length + 5 ≤ N) :
    (it (rdStep d id L) N s).pc = 6 ∧ (it (rdStep d id L) N s).pg = pg := by
  obtain ⟨pc, spg, left, word, t⟩ := s
  simp only at hs
  subst hs
  have hleft : leftOf d (getC L (d.node id 1)) = pg.sl.length := by
    have := h.le
    unfold leftOf
    rw [h.n, Int.min_eq_left this]
    omega
  have e4 : it (rdStep d id L) 4 ⟨0, spg, left, word, t⟩ = ⟨if pg.sl.length = 0 then 5 else 4, ⟨pg.lev, [], pg.hi, pg.la, pg.ri⟩, pg.sl.length, (getC L (d.node id 0)).n, true⟩ := by
    show rdStep d id L (rdStep d id L (rdStep d id L (rdStep d id L ⟨0, spg, left, word, t⟩))) = _
    have e0 : rdStep d id L ⟨0, spg, left, word, t⟩ = ⟨1, spg, left, (getC L (d.node id 0)).n, true⟩ := by simp only [rdStep, hc]; rfl
    rw [e0]
    simp only [rdStep, Pg.high, Pg.right, hleft, h.lev, h.hi, h.la, h.ri]
  have e5 : it (rdStep d id L) (4 + pg.sl.length) ⟨0, spg, left, word, t⟩ = ⟨5, pg, 0, (getC L (d.node id 0)).n, true⟩ := by
    rw [it_add, e4]
    by_cases h0 : pg.sl.length = 0
    · have hnil : pg.sl = [] := List.eq_nil_of_length_eq_zero h0
      rw [if_pos h0, h0]
      show (⟨5, ⟨pg.lev, [], pg.hi, pg.la, pg.ri⟩, 0, _, true⟩ : RdS) = _
      obtain ⟨lev, sl, hi, la, ri⟩ := pg
      simp only at hnil
      subst hnil
      rfl
    · rw [if_neg h0]
      exact rd_slots h _ [] _ (by simp) (by simp) (by omega) rfl rfl rfl
  have e6 : it (rdStep d id L) (4 + pg.sl.length + 1) ⟨0, spg, left, word, t⟩ = ⟨6, pg, 0, (getC L (d.node id 0)).n, true⟩ := by
    rw [it_succ, e5]
    simp only [rdStep]
    rw [if_pos (by simp)]
  have := it_rest e6 (rd_fix rfl) (show 4 + pg.sl.length + 1 ≤ N by omega)
  rw [this]
  exact ⟨rfl, rfl⟩
end
end Go.Proofs.YtlpdhhhgckpcfaaGreat

namespace Go.Proofs.YtlpdhhhgckpcfaaGreat
open Go.RowKit
section
variable {d : Cfg} {id : Int} {L : List Cel} {pg : Pg}
theorem rd_more (h : PageAt d id L pg) (hc : ltChg (getC L (d.node id 0)).n = false) {s : RdS} (hs : s.pc = 0) {n : Nat} (h6 : (it (rdStep d id L) n s).pc < 6) : n < pg.sl.length + 5 := by
  rcases Nat.lt_or_ge n (pg.sl.length + 5) with h1 | h1
  · exact h1
  · have := (rd_final h hc hs h1).1
    omega
end
end Go.Proofs.YtlpdhhhgckpcfaaGreat

namespace Go.Proofs.YtlpdhhhgckpcfaaGreat
open Go.RowKit
set_option maxRecDepth 100000

/-- The cells behind Put: the first three, and the slots. -/
def put3 (d : Cfg) (id : Int) (pg : Pg) (L : List Cel) : List Cel :=
  putC (putC (putC L (d.node id 1) ⟨pg.sl.length, ⟨#[]⟩, pg.lev⟩) (d.node id 2) ⟨0, pg.hi, b01 pg.la⟩) (d.node id 3) ⟨pg.ri, ⟨#[]⟩, 0⟩
def putSl (d : Cfg) (id : Int) : Nat → List Sl → List Cel → List Cel
  | _, [], L => L
  | i, s :: sl, L => putSl d id (i + 1) sl (putC L (d.node id (4 + i)) ⟨s.r, s.k, 0⟩)
def putPg (d : Cfg) (id : Int) (pg : Pg) (L : List Cel) : List Cel := putSl d id 0 pg.sl (put3 d id pg L)

section
variable {K : Know} {w : World} {F : List Comp} {pg : Pg} {a : Option Addr} {cap : Nat} {d : Cfg} {id : Int} {bm bc : Nat} {L : List Cel} {acc : Nat}
set_option maxHeartbeats 4000000 in
theorem kitPutG_st (hd : d.Ok) (hid : 0 ≤ id ∧ id < 18446744073709551616) (hlev : 0 ≤ pg.lev ∧ pg.lev < 1000000) (hle : (pg.sl.length : Int) ≤ d.fa)
    (hsl : ∀ W, St K W F → SlAt W a pg.sl) (hs : St K w (memC bm bc L acc :: F)) :
    Calls Tryz.prog 35 #[.agg #[.int .i64 d.th, .int .i64 d.sn, .int .i64 d.no, .int .i64 d.ch, .int .i64 d.re, .int .i64 d.fa, .int .u64 d.cl], .pointer (some ⟨bm, 0, none⟩), .int .u64 id, .agg #[.int .i64 (pg).lev, (.slice a pg.sl.length cap), .string (pg).hi, .bool (pg).la, .int .u64 (pg).ri]] w fun e w' => e = .returned (.tuple #[]) ∧
      St K w' (memC bm bc (putPg d id pg L) acc :: F) := by
  have Hsl := Lib.hid hsl
  clear hsl
  obtain ⟨n, hn⟩ : ∃ n, n = pg.sl.length := ⟨_, rfl⟩
  have hfa := hd.fa2
  have Qn := Lib.hid (fun (k : Int) (hk : 0 ≤ k ∧ k < d.fa + 4) w => refNode_any d hd id k hid.1 hid.2 hk.1 hk.2 w)
  have e3 : put3 d id pg L = putC (putC (putC L (d.node id 1) ⟨n, ⟨#[]⟩, pg.lev⟩) (d.node id 2) ⟨0, pg.hi, b01 pg.la⟩) (d.node id 3) ⟨pg.ri, ⟨#[]⟩, 0⟩ := by unfold put3; rw [hn]
  obtain ⟨Le, hLe⟩ : ∃ Le, Le = putPg d id pg L := ⟨_, rfl⟩
  rw [← hn] at hle ⊢
  rw [← hLe]
  obtain ⟨o, ho⟩ : ∃ o, o = pg.la := ⟨_, rfl⟩
  rw [← ho] at e3 ⊢
  have Hn := Lib.hid hn
  have HLe := Lib.hid hLe
  have E3 := Lib.hid e3
  clear hn hLe e3 ho
  cases o with
  | true =>
    have hs := (hs.made (.cells #[.int .i64 d.th, .int .i64 d.sn, .int .i64 d.no, .int .i64 d.ch, .int .i64 d.re, .int .i64 d.fa, .int .u64 d.cl] 26)).made (.cells #[.int .i64 pg.lev, .slice a n cap, .string pg.hi, .bool true, .int .u64 pg.ri] 43)
    rw [World.size_alloc] at hs
    have hs := hs.b2
    go_enter Tryz.func35, Tryz.ntmps35
    go_upto_region 1 with (fail)
    refine wp_ck hs ?_
    generalize w.heap.size + 1 = bp at *
    generalize w.heap.size = bcf at *
    clear hs
    intro W hs
    have kp := hs.k1
    have kc := hs.k2
    refine region_tail 12 (by kernel_rfl) (by as_aux_lemma => kernel_rfl) ?_
    simp only [List.take_succ_cons, List.take_zero, List.drop_succ_cons, List.drop_zero]
    repeat (go_big_quiet_step ((go_at_call 21; exact pure_of (Qn.out _ (by omega) _))))
    refine wpQuiet_nil ?_
    intro w5 hb5
    have hs := hs.same hb5
    clear kp kc hb5
    go_wp2_with fail
    refine (poke_st (c := ⟨n, ⟨#[]⟩, pg.lev⟩) hs).mono ?_
    clear hs
    rintro e w6 ⟨rfl, hs⟩
    have kp := hs.k1
    have kp2 := (hs.made (.cells #[.int .u64 0, .string pg.hi, .int .u64 0] 63)).k2
    have kh2 := (hs.made (.cells #[.int .u64 0, .string pg.hi, .int .u64 0] 63)).k0
    have fh2 := (hs.made (.cells #[.int .u64 0, .string pg.hi, .int .u64 0] 63)).f0
    have hs := hs.made (.cells #[.int .u64 0, .string pg.hi, .int .u64 1] 63)
    go_upto_region 5 with (fail)
    refine wp_ck hs ?_
    generalize w6.heap.size = bh at *
    clear hs kp kp2 kh2 fh2
    intro W2 hs
    have kh := hs.k0
    have kc := hs.tail.k2
    refine region_tail 5 (by kernel_rfl) (by as_aux_lemma => kernel_rfl) ?_
    simp only [List.take_succ_cons, List.take_zero, List.drop_succ_cons, List.drop_zero]
    repeat (go_big_quiet_step ((go_at_call 21; exact pure_of (Qn.out _ (by omega) _))))
    refine wpQuiet_nil ?_
    intro w7 hb7
    have hs := (hs.same hb7).b1
    clear kh kc hb7
    go_wp2_with fail
    refine (poke_st (c := ⟨0, pg.hi, 1⟩) hs).mono ?_
    clear hs
    rintro e w8 ⟨rfl, hs⟩
    have hs := hs.drop1
    have kp := hs.k1
    have kc := hs.k2
    go_upto_region 6 with (fail)
    refine region_tail 7 (by kernel_rfl) (by as_aux_lemma => kernel_rfl) ?_
    simp only [List.take_succ_cons, List.take_zero, List.drop_succ_cons, List.drop_zero]
    repeat (go_big_quiet_step ((go_at_call 21; exact pure_of (Qn.out _ (by omega) _))))
    refine wpQuiet_nil ?_
    intro w9 hb9
    have hs := hs.same hb9
    clear kp kc hb9
    go_wp2_with fail
    refine (poke_st (c := ⟨pg.ri, ⟨#[]⟩, 0⟩) hs).mono ?_
    clear hs
    rintro e w10 ⟨rfl, hs⟩
    have e3 := E3.out
    rw [show b01 true = 1 from rfl] at e3
    rw [← e3] at hs
    clear e3
    go_wp2
    go_loopw [9] (fun v wr => ∃ (i : Nat) (L2 : List Cel), i ≤ n ∧ v = .int .i64 i ∧ Le = putSl d id i (pg.sl.drop i) L2 ∧
      St K wr (memC bm bc L2 acc :: blk bp (.cells #[.int .i64 pg.lev, .slice a n cap, .string pg.hi, .bool true, .int .u64 pg.ri] 43) :: blk bcf (.cells #[.int .i64 d.th, .int .i64 d.sn, .int .i64 d.no, .int .i64 d.ch, .int .i64 d.re, .int .i64 d.fa, .int .u64 d.cl] 26) :: F)) (fun v _ => n - (intOf v).toNat)
    case atStart => exact ⟨0, put3 d id pg L, by omega, rfl, HLe.out, hs⟩
    case round =>
      clear hs
      obtain ⟨i, L2, hi, rfl, hL2, hs⟩ := hrel
      have HL2 := Lib.hid hL2
      clear hL2
      have kp := hs.k1
      have kc := hs.k2
      by_cases hlt : i < n
      · have hl' : i < pg.sl.length := by rw [← Hn.out]; exact hlt
        have hsl := Hsl.out _ hs.tail.tail.tail
        obtain ⟨b1, off1, rfl, _, c0, c1⟩ := hsl.2 i pg.sl[i] (List.getElem?_eq_getElem hl')
        have hd2 : pg.sl.drop i = pg.sl[i] :: pg.sl.drop (i + 1) := List.drop_eq_getElem_cons hl'
        have hnext : Le = putSl d id (i + 1) (pg.sl.drop (i + 1)) (putC L2 (d.node id (4 + (i : Int))) ⟨pg.sl[i].r, pg.sl[i].k, 0⟩) := by rw [HL2.out, hd2]; rfl
        have Hx := Lib.hid hnext
        generalize pg.sl[i] = u at *
        clear hl' hsl hd2 hnext
        go_upto_region 10 with (fail)
        refine region_tail 19 (by kernel_rfl) (by as_aux_lemma => kernel_rfl) ?_
        simp only [List.take_succ_cons, List.take_zero, List.drop_succ_cons, List.drop_zero]
        repeat (go_big_quiet_step ((go_at_call 21; exact pure_of (Qn.out _ (by omega) _))))
        refine wpQuiet_nil ?_
        intro w11 hb11
        have hs := hs.same hb11
        clear kp kc c0 c1 hb11
        go_wp2_with fail
        refine (poke_st (c := ⟨u.r, u.k, 0⟩) hs).mono ?_
        clear hs
        rintro e w12 ⟨rfl, hs⟩
        go_wp2
        go_roundw
        case rel => exact ⟨i + 1, _, by omega, by go_num, Hx.out, hs⟩
        case measure => simp [intOf]; omega
      · obtain rfl : i = n := by omega
        have e : Le = L2 := by rw [HL2.out, List.drop_eq_nil_of_le (by rw [← Hn.out]; exact Nat.le_refl _)]; rfl
        rw [← e] at hs
        clear e
        go_wp2
        go_end0
        exact ⟨rfl, hs.drop1.drop1⟩
  | false =>
    have hs := (hs.made (.cells #[.int .i64 d.th, .int .i64 d.sn, .int .i64 d.no, .int .i64 d.ch, .int .i64 d.re, .int .i64 d.fa, .int .u64 d.cl] 26)).made (.cells #[.int .i64 pg.lev, .slice a n cap, .string pg.hi, .bool false, .int .u64 pg.ri] 43)
    rw [World.size_alloc] at hs
    have hs := hs.b2
    go_enter Tryz.func35, Tryz.ntmps35
    go_upto_region 1 with (fail)
    refine wp_ck hs ?_
    generalize w.heap.size + 1 = bp at *
    generalize w.heap.size = bcf at *
    clear hs
    intro W hs
    have kp := hs.k1
    have kc := hs.k2
    refine region_tail 12 (by kernel_rfl) (by as_aux_lemma => kernel_rfl) ?_
    simp only [List.take_succ_cons, List.take_zero, List.drop_succ_cons, List.drop_zero]
    repeat (go_big_quiet_step ((go_at_call 21; exact pure_of (Qn.out _ (by omega) _))))
    refine wpQuiet_nil ?_
    intro w5 hb5
    have hs := hs.same hb5
    clear kp kc hb5
    go_wp2_with fail
    refine (poke_st (c := ⟨n, ⟨#[]⟩, pg.lev⟩) hs).mono ?_
    clear hs
    rintro e w6 ⟨rfl, hs⟩
    have kp := hs.k1
    have hs := hs.made (.cells #[.int .u64 0, .string pg.hi, .int .u64 0] 63)
    have kp2 := hs.k2
    go_upto_region 5 with (fail)
    refine wp_ck hs ?_
    generalize w6.heap.size = bh at *
    clear hs kp kp2
    intro W2 hs
    have kh := hs.k0
    have kc := hs.tail.k2
    refine region_tail 5 (by kernel_rfl) (by as_aux_lemma => kernel_rfl) ?_
    simp only [List.take_succ_cons, List.take_zero, List.drop_succ_cons, List.drop_zero]
    repeat (go_big_quiet_step ((go_at_call 21; exact pure_of (Qn.out _ (by omega) _))))
    refine wpQuiet_nil ?_
    intro w7 hb7
    have hs := (hs.same hb7).b1
    clear kh kc hb7
    go_wp2_with fail
    refine (poke_st (c := ⟨0, pg.hi, 0⟩) hs).mono ?_
    clear hs
    rintro e w8 ⟨rfl, hs⟩
    have hs := hs.drop1
    have kp := hs.k1
    have kc := hs.k2
    go_upto_region 6 with (fail)
    refine region_tail 7 (by kernel_rfl) (by as_aux_lemma => kernel_rfl) ?_
    simp only [List.take_succ_cons, List.take_zero, List.drop_succ_cons, List.drop_zero]
    repeat (go_big_quiet_step ((go_at_call 21; exact pure_of (Qn.out _ (by omega) _))))
    refine wpQuiet_nil ?_
    intro w9 hb9
    have hs := hs.same hb9
    clear kp kc hb9
    go_wp2_with fail
    refine (poke_st (c := ⟨pg.ri, ⟨#[]⟩, 0⟩) hs).mono ?_
    clear hs
    rintro e w10 ⟨rfl, hs⟩
    have e3 := E3.out
    rw [show b01 false = 0 from rfl] at e3
    rw [← e3] at hs
    clear e3
    go_wp2
    go_loopw [9] (fun v wr => ∃ (i : Nat) (L2 : List Cel), i ≤ n ∧ v = .int .i64 i ∧ Le = putSl d id i (pg.sl.drop i) L2 ∧
      St K wr (memC bm bc L2 acc :: blk bp (.cells #[.int .i64 pg.lev, .slice a n cap, .string pg.hi, .bool false, .int .u64 pg.ri] 43) :: blk bcf (.cells #[.int .i64 d.th, .int .i64 d.sn, .int .i64 d.no, .int .i64 d.ch, .int .i64 d.re, .int .i64 d.fa, .int .u64 d.cl] 26) :: F)) (fun v _ => n - (intOf v).toNat)
    case atStart => exact ⟨0, put3 d id pg L, by omega, rfl, HLe.out, hs⟩
    case round =>
      clear hs
      obtain ⟨i, L2, hi, rfl, hL2, hs⟩ := hrel
      have HL2 := Lib.hid hL2
      clear hL2
      have kp := hs.k1
      have kc := hs.k2
      by_cases hlt : i < n
      · have hl' : i < pg.sl.length := by rw [← Hn.out]; exact hlt
        have hsl := Hsl.out _ hs.tail.tail.tail
        obtain ⟨b1, off1, rfl, _, c0, c1⟩ := hsl.2 i pg.sl[i] (List.getElem?_eq_getElem hl')
        have hd2 : pg.sl.drop i = pg.sl[i] :: pg.sl.drop (i + 1) := List.drop_eq_getElem_cons hl'
        have hnext : Le = putSl d id (i + 1) (pg.sl.drop (i + 1)) (putC L2 (d.node id (4 + (i : Int))) ⟨pg.sl[i].r, pg.sl[i].k, 0⟩) := by rw [HL2.out, hd2]; rfl
        have Hx := Lib.hid hnext
        generalize pg.sl[i] = u at *
        clear hl' hsl hd2 hnext
        go_upto_region 10 with (fail)
        refine region_tail 19 (by kernel_rfl) (by as_aux_lemma => kernel_rfl) ?_
        simp only [List.take_succ_cons, List.take_zero, List.drop_succ_cons, List.drop_zero]
        repeat (go_big_quiet_step ((go_at_call 21; exact pure_of (Qn.out _ (by omega) _))))
        refine wpQuiet_nil ?_
        intro w11 hb11
        have hs := hs.same hb11
        clear kp kc c0 c1 hb11
        go_wp2_with fail
        refine (poke_st (c := ⟨u.r, u.k, 0⟩) hs).mono ?_
        clear hs
        rintro e w12 ⟨rfl, hs⟩
        go_wp2
        go_roundw
        case rel => exact ⟨i + 1, _, by omega, by go_num, Hx.out, hs⟩
        case measure => simp [intOf]; omega
      · obtain rfl : i = n := by omega
        have e : Le = L2 := by rw [HL2.out, List.drop_eq_nil_of_le (by rw [← Hn.out]; exact Nat.le_refl _)]; rfl
        rw [← e] at hs
        clear e
        go_wp2
        go_end0
        exact ⟨rfl, hs.drop1.drop1⟩
theorem kitPut_st (hd : d.Ok) (hid : 0 ≤ id ∧ id < 18446744073709551616) (hlev : 0 ≤ pg.lev ∧ pg.lev < 1000000) (hle : (pg.sl.length : Int) ≤ d.fa)
    (hs : St K w (memC bm bc L acc :: rowC (.slice a pg.sl.length cap) 69 2 pg.sl.length (slRow pg.sl) :: F)) :
    Calls Tryz.prog 35 #[.agg #[.int .i64 d.th, .int .i64 d.sn, .int .i64 d.no, .int .i64 d.ch, .int .i64 d.re, .int .i64 d.fa, .int .u64 d.cl], .pointer (some ⟨bm, 0, none⟩), .int .u64 id, .agg #[.int .i64 (pg).lev, (.slice a pg.sl.length cap), .string (pg).hi, .bool (pg).la, .int .u64 (pg).ri]] w fun e w' => e = .returned (.tuple #[]) ∧
      St K w' (memC bm bc (putPg d id pg L) acc :: rowC (.slice a pg.sl.length cap) 69 2 pg.sl.length (slRow pg.sl) :: F) := by
  have hf := hd.fa2
  exact kitPutG_st hd hid hlev hle (fun W h => h.row_slots (by omega)) hs
end
end Go.Proofs.YtlpdhhhgckpcfaaGreat

namespace Go.Proofs.YtlpdhhhgckpcfaaGreat
open Go.RowKit

section
variable {d : Cfg} (hd : d.Ok) {id : Int} (h1 : 1 ≤ id) (h2 : id ≤ d.no)
include hd h1 h2
theorem node_in {k : Int} (hk : 0 ≤ k) (hk2 : k < d.fa + 4) : d.node id k = d.A + (id - 1) * (d.fa + 4) + k ∧ 0 ≤ d.node id k ∧ d.node id k < d.cells := by
  have e : d.node id k = d.A + (id - 1) * (d.fa + 4) + k := by unfold Cfg.node; rw [if_pos ⟨h1, h2⟩]
  have hA := hd.A_bd; have hB := hd.B_bd; have hC := hd.C_bd; have hcl := hd.cells_bd
  have f1 := hd.fa1
  have m1 : (id - 1) * (d.fa + 4) + (d.fa + 4) = id * (d.fa + 4) := by rw [Int.sub_mul]; omega
  have m2 : id * (d.fa + 4) ≤ d.no * (d.fa + 4) := Int.mul_le_mul_of_nonneg_right h2 (by omega)
  have m3 : 0 ≤ (id - 1) * (d.fa + 4) := Int.mul_nonneg (by omega) (by omega)
  have eB : d.B = d.A + d.no * (d.fa + 4) := rfl
  refine ⟨e, by omega, ?_⟩
  have : d.B ≤ d.cells := by unfold Cfg.cells Cfg.C; have := hd.ch1; have := hd.re1; omega
  omega
theorem node_ne {k k' : Int} (hk : 0 ≤ k) (hk2 : k < d.fa + 4) (hk' : 0 ≤ k') (hk2' : k' < d.fa + 4) (h : k ≠ k') : d.node id k ≠ d.node id k' := by
  have a := node_in hd h1 h2 hk hk2
  have b := node_in hd h1 h2 hk' hk2'
  omega
omit hd h1 h2 in
theorem putSl_length : ∀ (sl : List Sl) (i : Nat) (L : List Cel), (putSl d id i sl L).length = L.length := by
  intro sl
  induction sl with
  | nil => intro i L; rfl
  | cons s sl ih => intro i L; show (putSl d id (i + 1) sl _).length = _; rw [ih, putC_length]
omit hd h1 h2 in
/-- Other cells stay. -/
theorem putSl_other : ∀ (sl : List Sl) (i : Nat) (L : List Cel) (j : Int), (∀ k : Nat, i ≤ k → k < i + sl.length → j ≠ d.node id (4 + (k : Int))) → getC (putSl d id i sl L) j = getC L j := by
  intro sl
  induction sl with
  | nil => intro i L j _; rfl
  | cons s sl ih =>
    intro i L j h
    show getC (putSl d id (i + 1) sl _) j = _
    rw [ih (i + 1) _ j (fun k a b => h k (by omega) (by simp; omega))]
    exact getC_ne (h i (by omega) (by simp))
theorem putSl_at : ∀ (sl : List Sl) (i : Nat) (L : List Cel), (L.length : Int) = d.cells → (i + sl.length : Int) ≤ d.fa → ∀ (m : Nat) (s : Sl), sl[m]? = some s → getC (putSl d id i sl L) (d.node id (4 + ((i + m : Nat) : Int))) = ⟨s.r, s.k, 0⟩ := by
  intro sl
  induction sl with
  | nil => intro i L _ _ m s h; simp at h
  | cons x sl ih =>
    intro i L hlen hle m s h
    simp only [List.length_cons] at hle
    show getC (putSl d id (i + 1) sl (putC L (d.node id (4 + (i : Int))) ⟨x.r, x.k, 0⟩)) _ = _
    cases m with
    | zero =>
      simp only [List.getElem?_cons_zero, Option.some.injEq] at h
      subst h
      have hi := node_in hd h1 h2 (k := 4 + (i : Int)) (by omega) (by omega)
      rw [putSl_other _ _ _ _ (fun k a b => by
        simp only [Nat.add_zero]
        exact node_ne hd h1 h2 (by omega) (by omega) (by omega) (by omega) (by omega))]
      rw [Nat.add_zero]
      exact getC_eq hi.2.1 (by omega)
    | succ m =>
      rw [show i + (m + 1) = (i + 1) + m by omega]
      exact ih (i + 1) _ (by rw [putC_length]; exact hlen) (by omega) m s (by simpa using h)

/-- Put lays the page down. -/
theorem putPg_at {L : List Cel} {pg : Pg} (hlen : (L.length : Int) = d.cells) (hlev : 0 ≤ pg.lev ∧ pg.lev < 1000000) (hle : (pg.sl.length : Int) ≤ d.fa) : PageAt d id (putPg d id pg L) pg := by
  have f1 := hd.fa1
  have n1 := node_in hd h1 h2 (k := 1) (by omega) (by omega)
  have n2 := node_in hd h1 h2 (k := 2) (by omega) (by omega)
  have n3 := node_in hd h1 h2 (k := 3) (by omega) (by omega)
  have ne : ∀ (k : Int) (m : Nat), 0 ≤ k → k ≤ 3 → 0 ≤ m → m < 0 + pg.sl.length → d.node id k ≠ d.node id (4 + (m : Int)) := fun k m a b _ c => node_ne hd h1 h2 a (by omega) (by omega) (by omega) (by omega)
  have e1 : getC (putPg d id pg L) (d.node id 1) = ⟨pg.sl.length, ⟨#[]⟩, pg.lev⟩ := by
    unfold putPg
    rw [putSl_other _ _ _ _ (fun k a b => ne 1 k (by omega) (by omega) a b)]
    unfold put3
    rw [getC_ne (node_ne hd h1 h2 (by omega) (by omega) (by omega) (by omega) (by omega)), getC_ne (node_ne hd h1 h2 (by omega) (by omega) (by omega) (by omega) (by omega)), getC_eq n1.2.1 (by omega)]
  have e2 : getC (putPg d id pg L) (d.node id 2) = ⟨0, pg.hi, b01 pg.la⟩ := by
    unfold putPg
    rw [putSl_other _ _ _ _ (fun k a b => ne 2 k (by omega) (by omega) a b)]
    unfold put3
    rw [getC_ne (node_ne hd h1 h2 (by omega) (by omega) (by omega) (by omega) (by omega)), getC_eq n2.2.1 (by rw [putC_length]; omega)]
  have e3 : getC (putPg d id pg L) (d.node id 3) = ⟨pg.ri, ⟨#[]⟩, 0⟩ := by
    unfold putPg
    rw [putSl_other _ _ _ _ (fun k a b => ne 3 k (by omega) (by omega) a b)]
    unfold put3
    rw [getC_eq n3.2.1 (by rw [putC_length, putC_length]; omega)]
  refine ⟨by rw [e1], ?_, by rw [e2], ?_, by rw [e3], hle, fun i s hs => ?_⟩
  · rw [e1]; show wrap64 pg.lev = pg.lev
    unfold wrap64; omega
  · rw [e2]; cases pg.la <;> rfl
  · have hi : i < pg.sl.length := (List.getElem?_eq_some_iff.1 hs).1
    have es : d.slot id i = d.node id (4 + ((0 + i : Nat) : Int)) := by
      unfold Cfg.slot
      rw [if_pos ⟨by omega, by omega⟩, Nat.zero_add]
    rw [es]
    unfold putPg
    have hl3 : ((put3 d id pg L).length : Int) = d.cells := by unfold put3; rw [putC_length, putC_length, putC_length]; exact hlen
    rw [putSl_at hd h1 h2 pg.sl 0 _ hl3 (by omega) i s hs]
    exact ⟨rfl, rfl⟩
end
end Go.Proofs.YtlpdhhhgckpcfaaGreat

namespace Go.Proofs.YtlpdhhhgckpcfaaGreat
open Go.RowKit

theorem ltBegin_bd {x : Int} (h0 : 0 ≤ x) (h1 : x < 18446744073709551616) : 0 ≤ ltBegin x ∧ ltBegin x < 18446744073709551616 := by
  unfold ltBegin
  split <;> omega

theorem putSl_ok {d : Cfg} {id : Int} : ∀ (sl : List Sl) (i : Nat) (L : List Cel), CelsOk L → (∀ s, s ∈ sl → 0 ≤ s.r ∧ s.r < 18446744073709551616) → CelsOk (putSl d id i sl L) := by
  intro sl
  induction sl with
  | nil => intro i L h _; exact h
  | cons s sl ih =>
    intro i L h hr
    exact ih (i + 1) _ (h.put (hr s (by simp))) (fun s' hs' => hr s' (by simp [hs']))
theorem putPg_ok {d : Cfg} {id : Int} {pg : Pg} {L : List Cel} (h : CelsOk L) (hle : (pg.sl.length : Int) ≤ 1000000) (hri : 0 ≤ pg.ri ∧ pg.ri < 18446744073709551616) (hr : ∀ s, s ∈ pg.sl → 0 ≤ s.r ∧ s.r < 18446744073709551616) : CelsOk (putPg d id pg L) := by
  unfold putPg put3
  refine putSl_ok _ _ _ ?_ hr
  refine CelsOk.put (CelsOk.put (CelsOk.put h ⟨?_, ?_⟩) ⟨?_, ?_⟩) hri
  · show (0 : Int) ≤ pg.sl.length; omega
  · show (pg.sl.length : Int) < _; omega
  · show (0 : Int) ≤ 0; omega
  · show (0 : Int) < _; omega
theorem putPg_length {d : Cfg} {id : Int} {pg : Pg} {L : List Cel} : (putPg d id pg L).length = L.length := by
  unfold putPg put3
  rw [putSl_length, putC_length, putC_length, putC_length]

section
variable {d : Cfg} (hd : d.Ok) {id : Int} (h1 : 1 ≤ id) (h2 : id ≤ d.no)
include hd h1 h2
/-- The latch is no part of the page. -/
theorem PageAt.latch {L : List Cel} {pg : Pg} {c : Cel} (h : PageAt d id L pg) : PageAt d id (putC L (d.node id 0) c) pg := by
  have f1 := hd.fa1
  have ne : ∀ k : Int, 1 ≤ k → k < d.fa + 4 → getC (putC L (d.node id 0) c) (d.node id k) = getC L (d.node id k) := fun k a b => getC_ne (node_ne hd h1 h2 (by omega) b (by omega) (by omega) (by omega))
  refine ⟨by rw [ne 1 (by omega) (by omega)]; exact h.n, by rw [ne 1 (by omega) (by omega)]; exact h.lev, by rw [ne 2 (by omega) (by omega)]; exact h.hi, by rw [ne 2 (by omega) (by omega)]; exact h.la, by rw [ne 3 (by omega) (by omega)]; exact h.ri, h.le, fun i s hs => ?_⟩
  have hi : i < pg.sl.length := (List.getElem?_eq_some_iff.1 hs).1
  have := h.le
  have es : d.slot id i = d.node id (4 + (i : Int)) := by
    unfold Cfg.slot
    rw [if_pos ⟨by omega, by omega⟩]
  rw [es, ne _ (by omega) (by omega), ← es]
  exact h.sl i s hs
end

section
variable {d : Cfg} {id : Int} {L : List Cel} {pg : Pg}
theorem rd_page (h : PageAt d id L pg) (hc : ltChg (getC L (d.node id 0)).n = false) {s : RdS} (hs : s.pc = 0) {n : Nat} (h6 : (it (rdStep d id L) n s).pc = 6) : (it (rdStep d id L) n s).pg = pg := by
  have h3 := rd_final h hc hs (N := n + (pg.sl.length + 5)) (by omega)
  rw [it_add, it_fix (rd_fix h6)] at h3
  exact h3.2
theorem rd_oks (hd : d.Ok) (hL : CelsOk L) {s : RdS} (h : s.Ok d) (n : Nat) : (it (rdStep d id L) n s).Ok d := by
  induction n with
  | zero => exact h
  | succ n ih => rw [it_succ]; exact rdStep_ok hd hL ih

/-- The fresh memory: an empty page in node 1. -/
theorem start_page (hd : d.Ok) : PageAt d 1 (startL d) ⟨0, [], ⟨#[]⟩, true, 0⟩ ∧ (getC (startL d) (d.node 1 0)) = Cel.zero ∧ CelsOk (startL d) ∧ ((startL d).length : Int) = d.cells := by
  obtain ⟨p1, p2, p3⟩ := start_cells d hd
  have f1 := hd.fa1
  have n1 := hd.no1
  have hA := hd.A_bd
  have hcl := hd.cells_bd
  have n : ∀ k : Int, 0 ≤ k → k < d.fa + 4 → d.node 1 k = d.A + k := fun k a b => by
    have := (node_in hd (id := 1) (by omega) n1 a b).1
    omega
  have z : ∀ k : Int, 0 ≤ k → k < d.fa + 4 → k ≠ 2 → getC (startL d) (d.node 1 k) = Cel.zero := by
    intro k a b c
    have e2 := n 2 (by omega) (by omega)
    have ek := n k a b
    rw [p3 _ (by omega), if_neg (by omega), if_neg (by omega), if_neg (by omega)]
  have e2 : getC (startL d) (d.node 1 2) = ⟨0, ⟨#[]⟩, 1⟩ := by rw [p3 _ (by omega), if_pos rfl]
  refine ⟨⟨by rw [z 1 (by omega) (by omega) (by omega)]; rfl, by rw [z 1 (by omega) (by omega) (by omega)]; show wrap64 0 = 0; unfold wrap64; omega, by rw [e2], by rw [e2]; rfl, by rw [z 3 (by omega) (by omega) (by omega)]; rfl, by simp; omega, fun i s hs => by simp at hs⟩, z 0 (by omega) (by omega) (by omega), fun k => ?_, by rw [p1]; have := hd.A_bd; have h5 := hd.B_bd; have h6 := hd.C_bd; omega⟩
  by_cases hk : 0 ≤ k
  · rw [p3 k hk]
    split
    · exact ⟨by decide, by decide⟩
    · split
      · exact ⟨by decide, by decide⟩
      · split <;> exact ⟨by decide, by decide⟩
  · rw [getC_neg (by omega)]; exact ⟨by decide, by decide⟩
end
end Go.Proofs.YtlpdhhhgckpcfaaGreat
