
/- The walk of InsertInserts. -/
import Derived.Test.YtlpdhhhgckpcfaaHold13
import Derived.Test.YtlpdhhhgckpcfaaInsOut
namespace Go.Proofs.Ytlpdhhhgckpcfaa
open Go.RowKit
set_option maxRecDepth 100000
/-- The test behind a full memory: what was there (Left, three times), nothing new. -/
def FuΦ (fr : InH) (e : Nat) (ρ : Nat → Option Value) (v : Value) (cs : List Comp) : Prop := match e with
  | 5 => ∃ (a : Option Addr) (c : Nat), v = (.agg #[.int .u64 (fr).id, .int .u64 (fr).word, .int .i64 (fr).pg.lev, (.slice a fr.pg.sl.length c), .string (fr).pg.hi, .bool (fr).pg.la, .int .u64 (fr).pg.ri]) ∧ cs = [slC (.slice a fr.pg.sl.length c) fr.pg]
  | 6 => v = .int .u64 fr.id ∧ cs = []
  | 11 => ∃ (a : Option Addr) (c : Nat), v = (.agg #[.int .u64 (fr).id, .int .u64 (fr).word, .int .i64 (fr).pg.lev, (.slice a fr.pg.sl.length c), .string (fr).pg.hi, .bool (fr).pg.la, .int .u64 (fr).pg.ri]) ∧ cs = [slC (.slice a fr.pg.sl.length c) fr.pg]
  | 12 => v = .int .u64 fr.word ∧ cs = []
  | 20 => ∃ (a : Option Addr) (c : Nat), v = (.agg #[.int .u64 (fr).id, .int .u64 (fr).word, .int .i64 (fr).pg.lev, (.slice a fr.pg.sl.length c), .string (fr).pg.hi, .bool (fr).pg.la, .int .u64 (fr).pg.ri]) ∧ cs = [slC (.slice a fr.pg.sl.length c) fr.pg]
  | 21 => ∃ (a : Option Addr) (c : Nat), v = .agg #[.int .i64 (fr.pg).lev, (.slice a fr.pg.sl.length c), .string (fr.pg).hi, .bool (fr.pg).la, .int .u64 (fr.pg).ri] ∧ cs = [] ∧ ρ 20 = some (.agg #[.int .u64 (fr).id, .int .u64 (fr).word, .int .i64 (fr).pg.lev, (.slice a fr.pg.sl.length c), .string (fr).pg.hi, .bool (fr).pg.la, .int .u64 (fr).pg.ri])
  | 25 => v = .bool true ∧ cs = []
  | 29 => ∃ (a : Option Addr) (c : Nat), v = (.agg #[.int .u64 (hd0).id, .int .u64 (hd0).word, .int .i64 (hd0).pg.lev, (.slice a hd0.pg.sl.length c), .string (hd0).pg.hi, .bool (hd0).pg.la, .int .u64 (hd0).pg.ri]) ∧ cs = [slC (.slice a hd0.pg.sl.length c) hd0.pg]
  | 30 => v = .int .u64 0 ∧ cs = []
  | _ => False
theorem fuUpd {ρ : Nat → Option Value} {k j : Nat} {u v : Value} (hk : ρ k = none) (hj : ρ j = some v) : upd ρ k u j = some v := by
  unfold upd
  rw [if_neg (fun e => by rw [e, hk] at hj; cases hj)]
  exact hj
theorem FuΦ.mono {fr : InH} : Mono [5, 6, 11, 12, 20, 21, 25, 29, 30] (FuΦ fr) := by
  intro e ρ v cs k u he hk h
  simp only [List.mem_cons, List.not_mem_nil, or_false] at he
  rcases he with rfl | rfl | rfl | rfl | rfl | rfl | rfl | rfl | rfl
  case inr.inr.inr.inr.inr.inl =>
    obtain ⟨a, c, h1, h2, h3⟩ := h
    exact ⟨a, c, h1, h2, fuUpd hk h3⟩
  all_goals exact h
/-- Right, and its number. -/
def RnΦ (h : InH) (e : Nat) (_ρ : Nat → Option Value) (v : Value) (cs : List Comp) : Prop := match e with
  | 1 => ∃ (a : Option Addr) (c : Nat), v = (.agg #[.int .u64 (h).id, .int .u64 (h).word, .int .i64 (h).pg.lev, (.slice a h.pg.sl.length c), .string (h).pg.hi, .bool (h).pg.la, .int .u64 (h).pg.ri]) ∧ cs = [slC (.slice a h.pg.sl.length c) h.pg]
  | 2 => v = .int .u64 h.id ∧ cs = []
  | _ => False
theorem RnΦ.mono {h : InH} : Mono [1, 2] (RnΦ h) := by
  intro e ρ v cs k u he hk h
  exact h
theorem cell4 {K : Know} {w : World} {cs : List Comp} {g : Nat} {L : List Cel} (hs : St K w cs) (hg : K.map g = some (.cells (flat L).toArray 50)) (hl : 4 < L.length) : w.cell? ⟨g, 12, none⟩ = some (.int .u64 (getC L 4).n) := (flat_cell (hs.know g _ hg) (getC_at (n := 4) hl)).1
theorem infoPg5 : (Try.prog.info? 31).map (·.size) = some 5 := by kernel_rfl
set_option maxHeartbeats 16000000 in
theorem insertInserts_walk (a : Option Addr) (len cap : Nat) (f : Nat → ByteArray) (fanout level : Int) (last : Bool) (key : ByteArray) (ref used : Int) (hkey : key.size ≤ maxLen) (href : 0 ≤ ref ∧ ref < 18446744073709551616) (w : World) (hz : StrsIn w a len f) :
    Calls Try.prog 3 #[.slice a len cap, .int .i64 fanout, .int .i64 level, .bool last, .string key, .int .u64 ref, .int .i64 used] w fun e w' => e = .returned (.bool true) ∧ Below w.heap.size w w' := by
  have Qh := Lib.hid (hold_st (cap := cap) (fanout := fanout) (level := level) (used := used) (last := last) hz hkey (St.start w))
  go_enter Try.func3, Try.ntmps3
  go_wp2_with fail
  refine (Qh.out).mono ?_
  clear Qh
  rintro e w1 ⟨bm, bc, d, L, fr, af, cf, key', ok, rfl, HK, hs⟩
  have HK := Lib.hid HK
  have hs := (hs.made (.cells (xbL cfg0 cfg0 (.pointer none) hd0 (.slice none 0 0) ⟨#[]⟩).toArray 35))
  have hs2 := hs.setRow (xbL d d (.pointer (some ⟨bm, 0, none⟩)) fr (.slice af fr.pg.sl.length cf) key').toArray
  obtain ⟨bx, hbx⟩ : ∃ bx, bx = w1.heap.size := ⟨_, rfl⟩
  go_upto_region 2 with (refine wpList_store_row rfl 35 _ _ rfl w1.heap.size (xbL d d (.pointer (some ⟨bm, 0, none⟩)) fr (.slice af fr.pg.sl.length cf) key').toArray rfl rfl 35 _ hs.head infoHeld13 (by kernel_rfl) (by kernel_rfl) ?_)
  rw [← hbx] at hs2 ⊢
  refine wp_ck hs2 ?_
  clear hs hs2 hbx
  intro w2 hs
  have hs : St (Know.of w) w2 (xbC bx d d (.pointer (some ⟨bm, 0, none⟩)) fr (.slice af fr.pg.sl.length cf) key' :: memC bm bc L 0 :: slC (.slice af fr.pg.sl.length cf) fr.pg :: []) := hs
  have QA := Lib.hid (fun (W : World) (cs : List Comp) (h : St (Know.of w) W cs) => awake13_st h)
  go_wp2_with fail
  refine (QA.out _ _ hs).mono ?_
  clear hs QA
  rintro e w3 ⟨rfl, hs⟩
  have kx := hs.k0
  unfold xbL at kx
  go_upto_region 4 with (fail)
  clear kx
  cases ok with
  | false =>
    go_wp2
    go_ret
    exact ⟨rfl, hs.below (Know.Le.refl _)⟩
  | true =>
  have kx := hs.k0
  unfold xbL at kx
  go_upto_region 6 with (fail)
  have hlen := HK.out.len
  have hcb := cells_big HK.out.hd
  have hc2 := HK.out.hd.cells_bd
  have q := kitCells_st hs.b1
  have Q := Lib.hid q
  clear q hs
  go_wp2_with fail
  refine (Q.out).mono ?_
  clear Q kx
  rintro e w4 ⟨g, rfl, hs⟩
  obtain ⟨hK1, hg1, hs⟩ := hs.freeze
  generalize (Know.of w).add g _ = K1 at *
  have HK1 := Lib.hid hK1
  have Hg1 := Lib.hid hg1
  clear hK1 hg1
  have hs : St K1 w4 (slC (.slice af fr.pg.sl.length cf) fr.pg :: memC bm bc L 0 :: xbC bx d d (.pointer (some ⟨bm, 0, none⟩)) fr (.slice af fr.pg.sl.length cf) key' :: []) := hs.re [2, 0, 1] rfl
  have hany : (fr.pg.sl.any fun s => s.k.toList == key'.toList) = false := by
    have := HK.out.hok
    cases h : (fr.pg.sl.any fun s => s.k.toList == key'.toList) with
    | false => rfl
    | true => rw [h] at this; cases this
  have Hany := Lib.hid hany
  obtain ⟨fu, hfu⟩ : ∃ fu, fu = insPg fr.pg key' ref := ⟨_, rfl⟩
  have hfuok : FuOk d fr fu := by rw [hfu]; exact FuOk.ins HK.out.hfr.pg HK.out.k HK.out.hkey href
  have Hfuok := Lib.hid hfuok
  have Hfu := Lib.hid hfu
  have q := newInsert_at (key := key') (ref := ref) HK.out.hd HK.out.hfr hfu (asc_no HK.out.asc hany) HK.out.asc hfuok hs
  have Q := Lib.hid q
  have kx := hs.k2
  unfold xbL at kx
  clear q hs hfu hany hfuok
  go_wp2_with fail
  refine (Q.out).mono ?_
  clear Q kx
  rintro e w5 ⟨b, au, cu, rfl, h⟩
  have hl33 : fu.sl.length ≤ 33 := by have := Hfuok.out.len; have := HK.out.hd.fa2; omega
  go_wp2
  go_loopw [19] (fun v19 wr => ∃ (j r : Nat), j + r ≤ 100 ∧ v19 = .int .i64 (1 + (j : Int)) ∧ InAt K1 wr b bm bc d fr (.slice af fr.pg.sl.length cf) fu (.slice au fu.sl.length cu) L (xbC bx d d (.pointer (some ⟨bm, 0, none⟩)) fr (.slice af fr.pg.sl.length cf) key' :: []) j r) (fun v _ => 600 - (intOf v).toNat)
  case atStart => exact ⟨0, _, by omega, by simp, h⟩
  case round =>
    clear h
    obtain ⟨j, r, hj, rfl, h⟩ := hrel
    have kx := h.rest.k0
    unfold xbL at kx
    have q := insGo HK.out.hd HK.out.hfr Hfuok.out (by have := HK.out.n4; omega) hlen (by omega) h
    have Q := Lib.hid q
    clear q h
    have hj5 : (1 + (j : Int)) < 500 := by omega
    go_wp2_with fail
    refine (Q.out).mono ?_
    clear Q kx hj5
    rintro e w6 (⟨r', hr, rfl, h⟩ | ⟨rfl, h⟩)
    · go_wp2
      go_roundw
      case rel => exact ⟨j + 1, r', by omega, by go_num, h⟩
      case measure => simp [intOf]; omega
    · obtain ⟨x, L', p, full, RX, hs, hfull, HO⟩ := ins_out HK.out.hd HK.out.hfr Hfuok.out (by have := HK.out.n4; have := HK.out.id; omega) hlen (by rw [HK.out.id]; exact HK.out.pg) h
      clear h
      have HO := Lib.hid HO
      have Hfull := Lib.hid hfull
      clear hfull
      have hs : St K1 w6 (memC bm bc L' (j + 1) :: insC b .nilFunc d x :: slC (.slice af fr.pg.sl.length cf) fr.pg :: xbC bx d d (.pointer (some ⟨bm, 0, none⟩)) fr (.slice af fr.pg.sl.length cf) key' :: RX) := hs.b1
      have kx := hs.b3.k0
      unfold xbL at kx
      have q := kitView_st (d := d) hs
      have Q := Lib.hid q
      clear q hs
      go_wp2_with fail
      refine (Q.out).mono ?_
      clear Q kx
      rintro e w7 ⟨g2, rfl, hK2, hg2, hs⟩
      have Hg1 := Lib.hid (hK2.map _ _ Hg1.out)
      have HK2 := Lib.hid (HK1.out.trans hK2)
      generalize K1.add g2 _ = K2 at *
      have Hg2 := Lib.hid hg2
      clear hg2 hK2 HK1
      have hs := hs.made (.cells #[.int .i64 (d).th, .int .i64 (d).sn, .int .i64 (d).no, .int .i64 (d).ch, .int .i64 (d).re, .int .i64 (d).fa, .int .u64 (d).cl, .slice (some ⟨g2, 0, none⟩) L'.length L'.length] 45)
      obtain ⟨bv, hbv⟩ : ∃ bv, bv = w7.heap.size := ⟨_, rfl⟩
      rw [← hbv] at hs
      go_upto_region 12 with (fail)
      rw [← hbv]
      clear hbv
      refine wp_ck hs ?_
      clear hs
      intro w8 hs
      as_aux_lemma =>
      have hs : St K2 w8 (slC (.slice af fr.pg.sl.length cf) fr.pg :: blk bv (.cells #[.int .i64 (d).th, .int .i64 (d).sn, .int .i64 (d).no, .int .i64 (d).ch, .int .i64 (d).re, .int .i64 (d).fa, .int .u64 (d).cl, .slice (some ⟨g2, 0, none⟩) L'.length L'.length] 45) :: memC bm bc L' (j + 1) :: insC b .nilFunc d x :: xbC bx d d (.pointer (some ⟨bm, 0, none⟩)) fr (.slice af fr.pg.sl.length cf) key' :: RX) := hs.b3
      have h33 : fr.pg.sl.length ≤ 100 := by have := HK.out.hfr.pg.le; have := HK.out.hd.fa2; omega
      have q := refInsert_st (key := key') (r := ref) Hany.out h33 hs
      rw [← Hfu.out] at q
      have Q := Lib.hid q
      have kx := hs.b4.k0
      unfold xbL at kx
      clear q hs
      go_wp2_with fail
      refine (Q.out).mono ?_
      clear Q kx
      rintro e w9 ⟨aw, cw, rfl, hs⟩
      have hs := hs.made (.cells #[.int .i64 (fu).lev, (.slice aw fu.sl.length cw), .string (fu).hi, .bool (fu).la, .int .u64 (fu).ri] 31)
      obtain ⟨bw, hbw⟩ : ∃ bw, bw = w9.heap.size := ⟨_, rfl⟩
      rw [← hbw] at hs
      go_upto_region 13 with (fail)
      rw [← hbw]
      clear hbw
      refine wp_ck hs ?_
      clear hs
      intro w10 hs
      have hs : St K2 w10 (blk bw (.cells #[.int .i64 (fu).lev, (.slice aw fu.sl.length cw), .string (fu).hi, .bool (fu).la, .int .u64 (fu).ri] 31) :: slC (.slice aw fu.sl.length cw) fu :: slC (.slice af fr.pg.sl.length cf) fr.pg :: blk bv (.cells #[.int .i64 (d).th, .int .i64 (d).sn, .int .i64 (d).no, .int .i64 (d).ch, .int .i64 (d).re, .int .i64 (d).fa, .int .u64 (d).cl, .slice (some ⟨g2, 0, none⟩) L'.length L'.length] 45) :: memC bm bc L' (j + 1) :: insC b .nilFunc d x :: xbC bx d d (.pointer (some ⟨bm, 0, none⟩)) fr (.slice af fr.pg.sl.length cf) key' :: RX) := hs
      obtain ⟨sp, hsp⟩ : ∃ sp : Bool, sp = decide (d.fa < (fu.sl.length : Int)) := ⟨_, rfl⟩
      rw [← hsp] at HO Hfull
      have Hsp := Lib.hid hsp
      clear hsp
      go_cut [23] from 999 to 0 (fun v23 wx => v23 = .bool sp ∧ St K2 wx (blk bw (.cells #[.int .i64 (fu).lev, (.slice aw fu.sl.length cw), .string (fu).hi, .bool (fu).la, .int .u64 (fu).ri] 31) :: slC (.slice aw fu.sl.length cw) fu :: slC (.slice af fr.pg.sl.length cf) fr.pg :: blk bv (.cells #[.int .i64 (d).th, .int .i64 (d).sn, .int .i64 (d).no, .int .i64 (d).ch, .int .i64 (d).re, .int .i64 (d).fa, .int .u64 (d).cl, .slice (some ⟨g2, 0, none⟩) L'.length L'.length] 45) :: memC bm bc L' (j + 1) :: insC b .nilFunc d x :: xbC bx d d (.pointer (some ⟨bm, 0, none⟩)) fr (.slice af fr.pg.sl.length cf) key' :: RX))
      case first =>
        as_aux_lemma =>
        have kw := hs.k0
        have kx := hs.b6.k0
        unfold xbL at kx
        rcases Bool.eq_false_or_eq_true sp with h | h
        · have hl : d.fa < (fu.sl.length : Int) := of_decide_eq_true (by rw [← Hsp.out, h])
          have Hh := Lib.hid h
          clear h
          go_wp2
          go_meet
          exact ⟨by rw [Hh.out], hs⟩
        · have hl : ¬ d.fa < (fu.sl.length : Int) := of_decide_eq_false (by rw [← Hsp.out, h])
          have Hh := Lib.hid h
          clear h
          go_wp2
          go_meet
          exact ⟨by rw [Hh.out], hs⟩
      case rest =>
      clear hs
      obtain ⟨rfl, hs⟩ := hcut
      apply_assumption
      obtain ⟨id, hid⟩ : ∃ id, id = newId L := ⟨_, rfl⟩
      obtain ⟨n4, hn4, hn40, hn41⟩ : ∃ n4, n4 = (getC L 4).n ∧ 3 ≤ n4 ∧ n4 ≤ 10 := ⟨_, rfl, HK.out.n4.1, HK.out.n4.2⟩
      have hid4 : n4 + 1 = id := by rw [hid, hn4]; rfl
      have Hid4 := Lib.hid hid
      have Hn4 := Lib.hid hn4
      rw [← hid] at Hfull
      clear hid hn4
      go_upto_region 14 with (fail)
      go_cut [24] from 999 to 0 (fun v24 wx => v24 = .int .u64 id ∧ St K2 wx (blk bw (.cells #[.int .i64 (fu).lev, (.slice aw fu.sl.length cw), .string (fu).hi, .bool (fu).la, .int .u64 (fu).ri] 31) :: slC (.slice aw fu.sl.length cw) fu :: slC (.slice af fr.pg.sl.length cf) fr.pg :: blk bv (.cells #[.int .i64 (d).th, .int .i64 (d).sn, .int .i64 (d).no, .int .i64 (d).ch, .int .i64 (d).re, .int .i64 (d).fa, .int .u64 (d).cl, .slice (some ⟨g2, 0, none⟩) L'.length L'.length] 45) :: memC bm bc L' (j + 1) :: insC b .nilFunc d x :: xbC bx d d (.pointer (some ⟨bm, 0, none⟩)) fr (.slice af fr.pg.sl.length cf) key' :: RX))
      case first =>
        as_aux_lemma =>
        have c0 := cell4 hs Hg1.out (by omega)
        rw [← Hn4.out] at c0
        have hl4 : (4 : Int) < (L.length : Int) := by omega
        have hw : IntKind.u64.wrap (n4 + 1) = id := by rw [IntKind.wrap_u64]; omega
        go_wp2
        go_meet
        exact ⟨rfl, hs⟩
      case rest =>
      clear hs
      obtain ⟨rfl, hs⟩ := hcut
      apply_assumption
      go_upto_region 15 with (fail)
      go_cut [109] from 999 to 0 (fun v109 wx => v109 = .bool false ∧ St K2 wx (blk bw (.cells #[.int .i64 (fu).lev, (.slice aw fu.sl.length cw), .string (fu).hi, .bool (fu).la, .int .u64 (fu).ri] 31) :: slC (.slice aw fu.sl.length cw) fu :: slC (.slice af fr.pg.sl.length cf) fr.pg :: blk bv (.cells #[.int .i64 (d).th, .int .i64 (d).sn, .int .i64 (d).no, .int .i64 (d).ch, .int .i64 (d).re, .int .i64 (d).fa, .int .u64 (d).cl, .slice (some ⟨g2, 0, none⟩) L'.length L'.length] 45) :: memC bm bc L' (j + 1) :: insC b .nilFunc d x :: xbC bx d d (.pointer (some ⟨bm, 0, none⟩)) fr (.slice af fr.pg.sl.length cf) key' :: RX))
      case first =>
        as_aux_lemma =>
        have kx := hs.b6.k0
        unfold xbL at kx
        have Qa := Lib.hid (fun (W : World) (h : St K2 W (blk bw (.cells #[.int .i64 (fu).lev, (.slice aw fu.sl.length cw), .string (fu).hi, .bool (fu).la, .int .u64 (fu).ri] 31) :: slC (.slice aw fu.sl.length cw) fu :: slC (.slice af fr.pg.sl.length cf) fr.pg :: blk bv (.cells #[.int .i64 (d).th, .int .i64 (d).sn, .int .i64 (d).no, .int .i64 (d).ch, .int .i64 (d).re, .int .i64 (d).fa, .int .u64 (d).cl, .slice (some ⟨g2, 0, none⟩) L'.length L'.length] 45) :: memC bm bc L' (j + 1) :: insC b .nilFunc d x :: xbC bx d d (.pointer (some ⟨bm, 0, none⟩)) fr (.slice af fr.pg.sl.length cf) key' :: RX)) => accesses_st h.b4.mem)
        have hn1 : ¬ ((500 : Int) ≤ 1 + (j : Int)) := by omega
        have hw : IntKind.u64.wrap (1 + (j : Int)) = 1 + (j : Int) := by rw [IntKind.wrap_u64]; omega
        go_wp2_with fail
        refine (Qa.out _ hs).mono ?_
        clear Qa
        rintro e w11 ⟨rfl, rfl⟩
        go_wp2
        go_meet
        exact ⟨by rw [decide_eq_false (by omega)], hs⟩
      case rest =>
      clear hs
      obtain ⟨rfl, hs⟩ := hcut
      apply_assumption
      as_aux_lemma =>
      go_upto_region 17 with (fail)
      go_cut [23, 121] from 32 to 121 (fun v23 v121 wx => v23 = .bool sp ∧ v121 = .bool full ∧ St K2 wx (blk bw (.cells #[.int .i64 (fu).lev, (.slice aw fu.sl.length cw), .string (fu).hi, .bool (fu).la, .int .u64 (fu).ri] 31) :: slC (.slice aw fu.sl.length cw) fu :: slC (.slice af fr.pg.sl.length cf) fr.pg :: blk bv (.cells #[.int .i64 (d).th, .int .i64 (d).sn, .int .i64 (d).no, .int .i64 (d).ch, .int .i64 (d).re, .int .i64 (d).fa, .int .u64 (d).cl, .slice (some ⟨g2, 0, none⟩) L'.length L'.length] 45) :: memC bm bc L' (j + 1) :: insC b .nilFunc d x :: xbC bx d d (.pointer (some ⟨bm, 0, none⟩)) fr (.slice af fr.pg.sl.length cf) key' :: RX))
      case first =>
        as_aux_lemma =>
        have kx := hs.b6.k0
        unfold xbL at kx
        have c0 := cell4 hs Hg1.out (by omega)
        rw [← Hn4.out] at c0
        have hl4 : (4 : Int) < (L.length : Int) := by omega
        have hno := HK.out.no
        have hw : IntKind.u64.wrap d.no = d.no := by rw [IntKind.wrap_u64]; omega
        have hff := Hfull.out
        rcases Bool.eq_false_or_eq_true sp with h | h
        · have Hh := Lib.hid h
          rw [h] at hff ⊢
          by_cases hni : d.no < id
          · rw [decide_eq_true hni] at hff
            have Hf : Hid (full = true) := Lib.hid hff
            have hge : d.no ≤ n4 := by omega
            clear hff h hni hid4
            refine region_pure (by kernel_rfl) (by as_aux_lemma => kernel_rfl) ?_
            repeat (go_big_quiet_step (fail))
            refine wpQuiet_nil ?_
            intro w2 hb2
            have hs := hs.same hb2
            clear hb2 kx c0
            go_wp2
            go_meet
            exact ⟨by rw [Hh.out], by rw [Hf.out, decide_eq_true (by omega)], hs⟩
          · rw [decide_eq_false hni] at hff
            have Hf : Hid (full = false) := Lib.hid hff
            have hge : ¬ d.no ≤ n4 := by omega
            clear hff h hni hid4
            refine region_pure (by kernel_rfl) (by as_aux_lemma => kernel_rfl) ?_
            repeat (go_big_quiet_step (fail))
            refine wpQuiet_nil ?_
            intro w2 hb2
            have hs := hs.same hb2
            clear hb2 kx c0
            go_wp2
            go_meet
            exact ⟨by rw [Hh.out], by rw [Hf.out, decide_eq_false (by omega)], hs⟩
        · have Hh := Lib.hid h
          rw [h] at hff ⊢
          have Hf : Hid (full = false) := Lib.hid hff
          clear hff h hid4
          refine region_pure (by kernel_rfl) (by as_aux_lemma => kernel_rfl) ?_
          repeat (go_big_quiet_step (fail))
          refine wpQuiet_nil ?_
          intro w2 hb2
          have hs := hs.same hb2
          clear hb2 kx c0
          go_wp2
          go_meet
          exact ⟨by rw [Hh.out], by rw [Hf.out], hs⟩
      case rest =>
      clear hs
      obtain ⟨rfl, rfl, hs⟩ := hcut
      apply_assumption
      rcases Bool.eq_false_or_eq_true full with hf | hf
      -- <FULL
      · obtain ⟨_, rfl, rfl, rfl⟩ : full = true ∧ L' = L ∧ x = (inxF fr (.slice af fr.pg.sl.length cf) fu (.slice au fu.sl.length cu)) ∧ RX = [] := by
          rcases HO.out with ⟨h, _⟩ | h
          · rw [hf] at h; cases h
          · exact h
        rw [hf]
        clear hf HO Hfull
        as_aux_lemma =>
        go_upto_region 18 with (fail)
        have hs : St K2 wc (insC b .nilFunc d (inxF fr (.slice af fr.pg.sl.length cf) fu (.slice au fu.sl.length cu)) :: slC (.slice af fr.pg.sl.length cf) fr.pg :: slC (.slice none 0 0) hd0.pg :: blk bw (.cells #[.int .i64 (fu).lev, (.slice aw fu.sl.length cw), .string (fu).hi, .bool (fu).la, .int .u64 (fu).ri] 31) :: slC (.slice aw fu.sl.length cw) fu :: blk bv (.cells #[.int .i64 (d).th, .int .i64 (d).sn, .int .i64 (d).no, .int .i64 (d).ch, .int .i64 (d).re, .int .i64 (d).fa, .int .u64 (d).cl, .slice (some ⟨g2, 0, none⟩) L'.length L'.length] 45) :: memC bm bc L' (j + 1) :: xbC bx d d (.pointer (some ⟨bm, 0, none⟩)) fr (.slice af fr.pg.sl.length cf) key' :: []) := (hs.row_nil (T := 70) (size := 2)).re [6, 3, 0, 1, 2, 4, 5, 7] rfl
        have hfl := HK.out.hfr.pg.le
        have hfa2 := HK.out.hd.fa2
        have hf1 : fr.pg.sl.length ≤ 1000000 := by omega
        have QL := Lib.hid (fun W (R : List Comp) (h : St K2 W (insC b .nilFunc d (inxF fr (.slice af fr.pg.sl.length cf) fu (.slice au fu.sl.length cu)) :: slC (.slice af fr.pg.sl.length cf) fr.pg :: R)) => insLeftF hf1 h)
        have QR := Lib.hid (fun W (R : List Comp) (h : St K2 W (insC b .nilFunc d (inxF fr (.slice af fr.pg.sl.length cf) fu (.slice au fu.sl.length cu)) :: slC (.slice none 0 0) hd0.pg :: R)) => insRightF h)
        have QE := Lib.hid (fun W (R : List Comp) (h : St K2 W (insC b .nilFunc d (inxF fr (.slice af fr.pg.sl.length cf) fu (.slice au fu.sl.length cu)) :: R)) => insErrF h)
        have hb9 : fr.pg.sl.length ≤ 1000000000 := by omega
        have QSX := Lib.hid (fun W (h : St K2 W (insC b .nilFunc d (inxF fr (.slice af fr.pg.sl.length cf) fu (.slice au fu.sl.length cu)) :: slC (.slice af fr.pg.sl.length cf) fr.pg :: slC (.slice none 0 0) hd0.pg :: blk bw (.cells #[.int .i64 (fu).lev, (.slice aw fu.sl.length cw), .string (fu).hi, .bool (fu).la, .int .u64 (fu).ri] 31) :: slC (.slice aw fu.sl.length cw) fu :: blk bv (.cells #[.int .i64 (d).th, .int .i64 (d).sn, .int .i64 (d).no, .int .i64 (d).ch, .int .i64 (d).re, .int .i64 (d).fa, .int .u64 (d).cl, .slice (some ⟨g2, 0, none⟩) L'.length L'.length] 45) :: memC bm bc L' (j + 1) :: xbC bx d d (.pointer (some ⟨bm, 0, none⟩)) fr (.slice af fr.pg.sl.length cf) key' :: [])) => (show SlAt W af fr.pg.sl from St.row_slots (l := fr.pg.sl) h.b1 hb9))
        have hid2 : (fr.id == 2) = true := by rw [HK.out.id]; rfl
        have Hs := Lib.hid hs
        clear hs
        refine region_effectsK [false, false, false, false, false, true, true, false, false, false, false, true, true, false, false, false, false, false, false, false, true, true, false, false, false, true, false, false, false, true, true, false, false, false, false, false, false, false, false, false] (fun | 6 => some (.int .u64 fr.id) | 12 => some (.int .u64 fr.word) | 25 => some (.bool true) | 30 => some (.int .u64 0) | _ => none) [5, 6, 11, 12, 20, 21, 25, 29, 30] (fun | 6 => [5] | 12 => [11] | 21 => [20] | 25 => [21] | 30 => [29] | _ => [])
          (GR K2 (insC b .nilFunc d (inxF fr (.slice af fr.pg.sl.length cf) fu (.slice au fu.sl.length cu)) :: slC (.slice af fr.pg.sl.length cf) fr.pg :: slC (.slice none 0 0) hd0.pg :: blk bw (.cells #[.int .i64 (fu).lev, (.slice aw fu.sl.length cw), .string (fu).hi, .bool (fu).la, .int .u64 (fu).ri] 31) :: slC (.slice aw fu.sl.length cw) fu :: blk bv (.cells #[.int .i64 (d).th, .int .i64 (d).sn, .int .i64 (d).no, .int .i64 (d).ch, .int .i64 (d).re, .int .i64 (d).fa, .int .u64 (d).cl, .slice (some ⟨g2, 0, none⟩) L'.length L'.length] 45) :: memC bm bc L' (j + 1) :: xbC bx d d (.pointer (some ⟨bm, 0, none⟩)) fr (.slice af fr.pg.sl.length cf) key' :: []) [5, 6, 11, 12, 20, 21, 25, 29, 30] (FuΦ fr))
          (fun W => St K2 W (insC b .nilFunc d (inxF fr (.slice af fr.pg.sl.length cf) fu (.slice au fu.sl.length cu)) :: slC (.slice af fr.pg.sl.length cf) fr.pg :: slC (.slice none 0 0) hd0.pg :: blk bw (.cells #[.int .i64 (fu).lev, (.slice aw fu.sl.length cw), .string (fu).hi, .bool (fu).la, .int .u64 (fu).ri] 31) :: slC (.slice aw fu.sl.length cw) fu :: blk bv (.cells #[.int .i64 (d).th, .int .i64 (d).sn, .int .i64 (d).no, .int .i64 (d).ch, .int .i64 (d).re, .int .i64 (d).fa, .int .u64 (d).cl, .slice (some ⟨g2, 0, none⟩) L'.length L'.length] 45) :: memC bm bc L' (j + 1) :: xbC bx d d (.pointer (some ⟨bm, 0, none⟩)) fr (.slice af fr.pg.sl.length cf) key' :: [])) ?xaS (by kernel_rfl) ?xhB ?xH ?xhaS ?xh0 ?xhI ?xhR ?xhE ?xhQ
        case xhB => as_aux_lemma => kernel_rfl
        case xH =>
          -- <xmH
          intro W2 hs
          have kx := hs.b7.k0
          unfold xbL at kx
          have kv := hs.b5.k0
          have Qe := Lib.hid (fun wz (hy : ∃ x : Ext, wz = over W2 x) => QE.out wz _ (hs.same (Pure.below hy)))
          have Qs := Lib.hid (fun wz (hy : ∃ x : Ext, wz = over W2 x) => same_cells wz g2 g L' (by omega) ((hs.same (Pure.below hy)).know _ _ Hg2.out) ((hs.same (Pure.below hy)).know _ _ Hg1.out))
          clear hs
          simp only [withK]
          iterate 40 (go_big_quiet_step (first | (go_at_call 12; exact pure_of_same (Qe.out _ ⟨_, rfl⟩)) | (go_at_call 16; exact pure_of (Qs.out _ ⟨_, rfl⟩))))
          refine wpQuiet_nil ?_
          rfl
          -- xmH>
        case xhaS => rfl
        case xh0 => exact GR.start Hs.out
        case xhI => exact fun ρ W2 h => h.rest
        case xhR => exact fun ρ W2 W3 h hb => h.same hb
        case xhE =>
          refine ⟨?xe5, ?xe6, ?xe11, ?xe12, ?xe20, ?xe21, ?xe25, ?xe29, ?xe30, trivial⟩
          case xe5 =>
            -- <xm5
            intro o ho ρ W2 h hcl h5 hd2 act hact
            obtain rfl := Option.some.inj ho
            replace hact : act = fillD _ ρ [] _ := hact
            obtain ⟨C, R', hx1, hs, hnext⟩ := h.step FuΦ.mono 5 [] (by decide) (by decide) (by decide) h5 (by simp)
            simp only [fillD] at hact
            subst hact
            have Hn := Lib.hid hnext
            clear hnext hx1 h hcl hd2 h5
            go_wp2_with fail
            refine (QL.out _ _ hs).mono ?_
            rintro e W3 ⟨va8, rfl, hs'⟩
            obtain ⟨a8, c8, rfl, _, _⟩ := hs'.row_read
            have Hs' := Lib.hid hs'
            clear hs hs'
            go_wp2
            exact ⟨rfl, _, rfl, fun u hu => (by cases hu), Hn.out _ _ W3 ⟨a8, c8, rfl, rfl⟩ Hs'.out⟩
            -- xm5>
          case xe6 =>
            -- <xm6
            intro o ho ρ W2 h hcl h6 hd2 act hact
            obtain rfl := Option.some.inj ho
            replace hact : act = fillD _ ρ [5] _ := hact
            obtain ⟨v5, h5⟩ := Option.isSome_iff_exists.1 (hd2 5 (by show _ ∈ [5]; simp))
            obtain ⟨cs8, R8, ⟨a8, c8, rfl, rfl⟩, hs8⟩ := h.at 5 (by simp) h5
            simp only [fillD, h5, Option.getD_some, dstAt, List.getElem?_cons_succ, List.getElem?_cons_zero, Option.bind_some, Option.bind_none, Act.put, List.setIfInBounds_toArray, List.set_cons_zero, List.set_cons_succ] at hact
            subst hact
            have H := Lib.hid (h.know FuΦ.mono 6 (by decide) (by simp) h6 _ ⟨rfl, rfl⟩)
            clear h hs8 hcl hd2 h6 h5
            go_wp2
            exact ⟨rfl, _, rfl, fun u hu => Option.some.inj hu, H.out⟩
            -- xm6>
          case xe11 =>
            -- <xm11
            intro o ho ρ W2 h hcl h11 hd2 act hact
            obtain rfl := Option.some.inj ho
            replace hact : act = fillD _ ρ [] _ := hact
            obtain ⟨C, R', hx1, hs, hnext⟩ := h.step FuΦ.mono 11 [] (by decide) (by decide) (by decide) h11 (by simp)
            simp only [fillD] at hact
            subst hact
            have Hn := Lib.hid hnext
            clear hnext hx1 h hcl hd2 h11
            go_wp2_with fail
            refine (QL.out _ _ hs).mono ?_
            rintro e W3 ⟨va8, rfl, hs'⟩
            obtain ⟨a8, c8, rfl, _, _⟩ := hs'.row_read
            have Hs' := Lib.hid hs'
            clear hs hs'
            go_wp2
            exact ⟨rfl, _, rfl, fun u hu => (by cases hu), Hn.out _ _ W3 ⟨a8, c8, rfl, rfl⟩ Hs'.out⟩
            -- xm11>
          case xe12 =>
            -- <xm12
            intro o ho ρ W2 h hcl h12 hd2 act hact
            obtain rfl := Option.some.inj ho
            replace hact : act = fillD _ ρ [11] _ := hact
            obtain ⟨v11, h11⟩ := Option.isSome_iff_exists.1 (hd2 11 (by show _ ∈ [11]; simp))
            obtain ⟨cs8, R8, ⟨a8, c8, rfl, rfl⟩, hs8⟩ := h.at 11 (by simp) h11
            simp only [fillD, h11, Option.getD_some, dstAt, List.getElem?_cons_succ, List.getElem?_cons_zero, Option.bind_some, Option.bind_none, Act.put, List.setIfInBounds_toArray, List.set_cons_zero, List.set_cons_succ] at hact
            subst hact
            have H := Lib.hid (h.know FuΦ.mono 12 (by decide) (by simp) h12 _ ⟨rfl, rfl⟩)
            clear h hs8 hcl hd2 h12 h11
            go_wp2
            exact ⟨rfl, _, rfl, fun u hu => Option.some.inj hu, H.out⟩
            -- xm12>
          case xe20 =>
            -- <xm20
            intro o ho ρ W2 h hcl h20 hd2 act hact
            obtain rfl := Option.some.inj ho
            replace hact : act = fillD _ ρ [] _ := hact
            obtain ⟨C, R', hx1, hs, hnext⟩ := h.step FuΦ.mono 20 [] (by decide) (by decide) (by decide) h20 (by simp)
            simp only [fillD] at hact
            subst hact
            have Hn := Lib.hid hnext
            clear hnext hx1 h hcl hd2 h20
            go_wp2_with fail
            refine (QL.out _ _ hs).mono ?_
            rintro e W3 ⟨va8, rfl, hs'⟩
            obtain ⟨a8, c8, rfl, _, _⟩ := hs'.row_read
            have Hs' := Lib.hid hs'
            clear hs hs'
            go_wp2
            exact ⟨rfl, _, rfl, fun u hu => (by cases hu), Hn.out _ _ W3 ⟨a8, c8, rfl, rfl⟩ Hs'.out⟩
            -- xm20>
          case xe21 =>
            -- <xm21
            intro o ho ρ W2 h hcl h21 hd2 act hact
            obtain rfl := Option.some.inj ho
            replace hact : act = fillD _ ρ [20] _ := hact
            obtain ⟨v20, h20⟩ := Option.isSome_iff_exists.1 (hd2 20 (by show _ ∈ [20]; simp))
            obtain ⟨cs8, R8, ⟨a8, c8, rfl, rfl⟩, hs8⟩ := h.at 20 (by simp) h20
            simp only [fillD, h20, Option.getD_some, dstAt, List.getElem?_cons_succ, List.getElem?_cons_zero, Option.bind_some, Option.bind_none, Act.put, List.setIfInBounds_toArray, List.set_cons_zero, List.set_cons_succ] at hact
            subst hact
            have H := Lib.hid (h.know FuΦ.mono 21 (by decide) (by simp) h21 _ ⟨a8, c8, rfl, rfl, by simp [upd, h20]⟩)
            clear h hs8 hcl hd2 h21 h20
            go_wp2
            exact ⟨rfl, _, rfl, fun u hu => (by cases hu), H.out⟩
            -- xm21>
          case xe25 =>
            -- <xm25
            intro o ho ρ W2 h hcl h25 hd2 act hact
            obtain rfl := Option.some.inj ho
            replace hact : act = fillD _ ρ [21] _ := hact
            obtain ⟨v21, h21⟩ := Option.isSome_iff_exists.1 (hd2 21 (by show _ ∈ [21]; simp))
            obtain ⟨cs8, R8, ⟨a8, c8, rfl, _, h20⟩, hs8⟩ := h.at 21 (by simp) h21
            obtain ⟨cs9, R9, ⟨a9, c9, he9, rfl⟩, hs9⟩ := h.at 20 (by simp) h20
            obtain ⟨rfl, rfl⟩ : a8 = a9 ∧ c8 = c9 := by simpa using he9
            have s8 := hs9.row_slots (by omega)
            have sx : SlAt W2 af fr.pg.sl := QSX.out W2 h.rest
            have S8 := Lib.hid s8
            have SX := Lib.hid sx
            have H := Lib.hid h
            have H11 := Lib.hid h25
            simp only [fillD, h21, Option.getD_some, dstAt, List.getElem?_cons_succ, List.getElem?_cons_zero, Option.bind_some, Option.bind_none, Act.put, List.setIfInBounds_toArray, List.set_cons_zero, List.set_cons_succ] at hact
            subst hact
            clear hs8 h hcl hd2 h21 h25 s8 sx
            go_wp2_with fail
            refine (samePage_any W2 S8.out SX.out).mono ?_
            rintro e W3 ⟨rfl, hb⟩
            have Hb := Lib.hid hb
            clear hb
            go_wp2
            exact ⟨rfl, _, rfl, fun u hu => Option.some.inj hu, (H.out.same Hb.out).know FuΦ.mono 25 (by decide) (by simp) H11.out _ ⟨rfl, rfl⟩⟩
            -- xm25>
          case xe29 =>
            -- <xm29
            intro o ho ρ W2 h hcl h29 hd2 act hact
            obtain rfl := Option.some.inj ho
            replace hact : act = fillD _ ρ [] _ := hact
            obtain ⟨C, R', hx1, hs, hnext⟩ := h.step FuΦ.mono 29 [] (by decide) (by decide) (by decide) h29 (by simp)
            simp only [fillD] at hact
            subst hact
            have Hn := Lib.hid hnext
            clear hnext hx1 h hcl hd2 h29
            go_wp2_with fail
            refine (QR.out _ _ (hs.re [0, 2, 1] rfl)).mono ?_
            rintro e W3 ⟨va8, rfl, hs'⟩
            obtain ⟨a8, c8, rfl, _, _⟩ := hs'.row_read
            have Hs' := Lib.hid (hs'.re [0, 1, 3, 2] rfl)
            clear hs hs'
            go_wp2
            exact ⟨rfl, _, rfl, fun u hu => (by cases hu), Hn.out _ _ W3 ⟨a8, c8, rfl, rfl⟩ Hs'.out⟩
            -- xm29>
          case xe30 =>
            -- <xm30
            intro o ho ρ W2 h hcl h30 hd2 act hact
            obtain rfl := Option.some.inj ho
            replace hact : act = fillD _ ρ [29] _ := hact
            obtain ⟨v29, h29⟩ := Option.isSome_iff_exists.1 (hd2 29 (by show _ ∈ [29]; simp))
            obtain ⟨cs8, R8, ⟨a8, c8, rfl, rfl⟩, hs8⟩ := h.at 29 (by simp) h29
            simp only [fillD, h29, Option.getD_some, dstAt, List.getElem?_cons_succ, List.getElem?_cons_zero, Option.bind_some, Option.bind_none, Act.put, List.setIfInBounds_toArray, List.set_cons_zero, List.set_cons_succ] at hact
            subst hact
            have H := Lib.hid (h.know FuΦ.mono 30 (by decide) (by simp) h30 _ ⟨rfl, rfl⟩)
            clear h hs8 hcl hd2 h30 h29
            go_wp2
            exact ⟨rfl, _, rfl, fun u hu => Option.some.inj hu, H.out⟩
            -- xm30>
        case xhQ =>
          -- <xmQ
          intro ρ W2 h hall
          have hs := h.rest
          clear h
          simp only [fillD, Option.getD_some, dstAt, List.getElem?_cons_succ, List.getElem?_cons_zero, Option.bind_some, Option.bind_none, Act.put, List.setIfInBounds_toArray, List.set_cons_zero, List.set_cons_succ]
          go_wp2
          go_ret
          exact ⟨rfl, hs.below HK2.out⟩
          -- xmQ>
      -- FULL>
      obtain ⟨hO, rfl⟩ : OutOk d fr fu L x L' p sp ∧ RX = [slC x.vl x.le.pg, slC x.vr x.ri.pg] := by
        rcases HO.out with ⟨_, h⟩ | ⟨h, _⟩
        · exact h
        · rw [hf] at h; cases h
      rw [hf]
      have HOk := Lib.hid hO
      clear hf HO Hfull hO
      as_aux_lemma =>
      have hs := (hs.re [2, 5, 7, 8, 1, 0, 3, 4, 6] rfl).tail
      have hs := hs.made (.cells #[.int .i64 0, .slice none 0 0, .string ⟨#[]⟩, .bool false, .int .u64 0] 31)
      obtain ⟨br, hbr⟩ : ∃ br, br = wc.heap.size := ⟨_, rfl⟩
      rw [← hbr] at hs
      go_upto_region 21 with (fail)
      rw [← hbr]
      clear hbr
      refine wp_ck hs ?_
      clear hs
      intro w11 hs
      have hs : St K2 w11 (blk br (.cells #[.int .i64 0, .slice none 0 0, .string ⟨#[]⟩, .bool false, .int .u64 0] 31) :: insC b .nilFunc d x :: slC x.vl x.le.pg :: slC x.vr x.ri.pg :: slC (.slice aw fu.sl.length cw) fu :: blk bw (.cells #[.int .i64 (fu).lev, (.slice aw fu.sl.length cw), .string (fu).hi, .bool (fu).la, .int .u64 (fu).ri] 31) :: blk bv (.cells #[.int .i64 (d).th, .int .i64 (d).sn, .int .i64 (d).no, .int .i64 (d).ch, .int .i64 (d).re, .int .i64 (d).fa, .int .u64 (d).cl, .slice (some ⟨g2, 0, none⟩) L'.length L'.length] 45) :: memC bm bc L' (j + 1) :: xbC bx d d (.pointer (some ⟨bm, 0, none⟩)) fr (.slice af fr.pg.sl.length cf) key' :: []) := hs
      go_cut [161] from 999 to 0 (fun v161 wx => v161 = .bool sp ∧ St K2 wx (blk br (.cells #[.int .i64 0, .slice none 0 0, .string ⟨#[]⟩, .bool false, .int .u64 0] 31) :: insC b .nilFunc d x :: slC x.vl x.le.pg :: slC x.vr x.ri.pg :: slC (.slice aw fu.sl.length cw) fu :: blk bw (.cells #[.int .i64 (fu).lev, (.slice aw fu.sl.length cw), .string (fu).hi, .bool (fu).la, .int .u64 (fu).ri] 31) :: blk bv (.cells #[.int .i64 (d).th, .int .i64 (d).sn, .int .i64 (d).no, .int .i64 (d).ch, .int .i64 (d).re, .int .i64 (d).fa, .int .u64 (d).cl, .slice (some ⟨g2, 0, none⟩) L'.length L'.length] 45) :: memC bm bc L' (j + 1) :: xbC bx d d (.pointer (some ⟨bm, 0, none⟩)) fr (.slice af fr.pg.sl.length cf) key' :: []))
      case first =>
        as_aux_lemma =>
        go_wp2
        go_meet
        exact ⟨rfl, hs⟩
      case rest =>
      clear hs
      obtain ⟨rfl, hs⟩ := hcut
      apply_assumption
      obtain ⟨sv, hsv⟩ : ∃ sv, sv = if sp then splSep fu else ⟨#[]⟩ := ⟨_, rfl⟩
      have Hsv := Lib.hid hsv
      clear hsv
      go_cut [23, 26, 27, 161] from 999 to 0 (fun v23 v26 v27 v161 wx => ∃ cp : Nat, v23 = .bool sp ∧ v26 = .string sv ∧ St K2 wx (insC b .nilFunc d x :: slC x.vl x.le.pg :: slC x.vr x.ri.pg :: slC (.slice aw fu.sl.length cw) fu :: blk bw (.cells #[.int .i64 (p).lev, (.slice aw p.sl.length cp), .string (p).hi, .bool (p).la, .int .u64 (p).ri] 31) :: blk bv (.cells #[.int .i64 (d).th, .int .i64 (d).sn, .int .i64 (d).no, .int .i64 (d).ch, .int .i64 (d).re, .int .i64 (d).fa, .int .u64 (d).cl, .slice (some ⟨g2, 0, none⟩) L'.length L'.length] 45) :: memC bm bc L' (j + 1) :: xbC bx d d (.pointer (some ⟨bm, 0, none⟩)) fr (.slice af fr.pg.sl.length cf) key' :: []))
      case first =>
        have hl9 : fu.sl.length ≤ 1000000 := by omega
        rcases Bool.eq_false_or_eq_true sp with h | h
        -- <SPL
        · as_aux_lemma =>
          have hO : OutOk d fr fu L x L' p true := by rw [← h]; exact HOk.out
          rw [h]
          have Hh := Lib.hid h
          have hl : d.fa < (fu.sl.length : Int) := of_decide_eq_true (Hsp.out.symm.trans h)
          have f1 := HK.out.hd.fa1
          obtain ⟨ga, hga, hcw⟩ : ∃ ga, aw = some ⟨ga, 0, none⟩ ∧ fu.sl.length ≤ cw := by
            obtain ⟨a, c, he, hc, hg⟩ := (hs.b4).row_read
            injection he with e1 e2 e3
            obtain ⟨g, cur, e, _⟩ := hg (by omega)
            exact ⟨g, by rw [e1, e], by omega⟩
          have hp : splL fu id = p := by rw [hO.pp, Hid4.out]; rfl
          have hpR := Hfuok.out.right HK.out.hd
          have hpL := Hfuok.out.left (id := id) HK.out.hd (by omega)
          rw [hp] at hpL
          have q := fun (W : World) (R : List Comp) (h : St K2 W (slC (.slice (some ⟨ga, 0, none⟩) fu.sl.length cw) fu :: R)) => refSplit_st (r := id) hcw (by omega) (by omega) Hfuok.out.k h
          rw [hp] at q
          simp only [← hga] at q
          have Hga := Lib.hid hga
          have Hp := Lib.hid hp
          clear hga hp
          have Q := Lib.hid (q _ _ hs.b4)
          have kw := hs.b5.k0
          have hs := hs.b4
          have hs1 := hs.b5.setRow #[.int .i64 (p).lev, (.slice aw p.sl.length p.sl.length), .string (p).hi, .bool (p).la, .int .u64 (p).ri]
          clear q h
          go_wp2_with fail
          refine (Q.out).mono ?_
          clear Q kw hs hs1
          rintro e w12 ⟨rfl, hs⟩
          have hs1 := hs.b5.setRow #[.int .i64 (p).lev, (.slice aw p.sl.length p.sl.length), .string (p).hi, .bool (p).la, .int .u64 (p).ri]
          have hs2 := hs1.b2.setRow #[.int .i64 ((splR fu)).lev, (.slice (some ⟨ga, p.sl.length * 2, none⟩) (splR fu).sl.length (cw - p.sl.length)), .string ((splR fu)).hi, .bool ((splR fu)).la, .int .u64 ((splR fu)).ri]
          go_upto_region 23 with (first | (refine wpList_store_row rfl 31 _ _ rfl bw #[.int .i64 (p).lev, (.slice aw p.sl.length p.sl.length), .string (p).hi, .bool (p).la, .int .u64 (p).ri] rfl rfl 31 _ hs.b5.head infoPg5 (by rfl) (by kernel_rfl) ?_) | (refine wpList_store_row rfl 31 _ _ rfl br #[.int .i64 ((splR fu)).lev, (.slice (some ⟨ga, p.sl.length * 2, none⟩) (splR fu).sl.length (cw - p.sl.length)), .string ((splR fu)).hi, .bool ((splR fu)).la, .int .u64 ((splR fu)).ri] rfl rfl 31 _ hs1.b2.head infoPg5 (by rfl) (by kernel_rfl) ?_))
          refine wp_ck hs2 ?_
          clear hs hs1 hs2
          intro w13 hs
          have hs : St K2 w13 (insC b .nilFunc d x :: slC x.vr x.ri.pg :: slC x.vl x.le.pg :: slC (.slice aw fu.sl.length cw) fu :: blk bw (.cells #[.int .i64 (p).lev, (.slice aw p.sl.length p.sl.length), .string (p).hi, .bool (p).la, .int .u64 (p).ri] 31) :: blk br (.cells #[.int .i64 ((splR fu)).lev, (.slice (some ⟨ga, p.sl.length * 2, none⟩) (splR fu).sl.length (cw - p.sl.length)), .string ((splR fu)).hi, .bool ((splR fu)).la, .int .u64 ((splR fu)).ri] 31) :: blk bv (.cells #[.int .i64 (d).th, .int .i64 (d).sn, .int .i64 (d).no, .int .i64 (d).ch, .int .i64 (d).re, .int .i64 (d).fa, .int .u64 (d).cl, .slice (some ⟨g2, 0, none⟩) L'.length L'.length] 45) :: memC bm bc L' (j + 1) :: xbC bx d d (.pointer (some ⟨bm, 0, none⟩)) fr (.slice af fr.pg.sl.length cf) key' :: []) := hs.re [3, 5, 4, 2, 1, 0, 6, 7, 8] rfl
          have q := insRightY hO (by have := hpR.le; omega) hs
          rw [← Hid4.out] at q
          have Q := Lib.hid q
          clear q hs
          go_wp2_with fail
          refine (Q.out).mono ?_
          clear Q
          rintro e w14 ⟨var, rfl, hs⟩
          obtain ⟨ar, cr, rfl, _, _⟩ := hs.row_read
          have hs := hs.made (.cells #[.int .u64 id, .int .u64 (ltLock 0), .int .i64 (splR fu).lev, (.slice ar (splR fu).sl.length cr), .string (splR fu).hi, .bool (splR fu).la, .int .u64 (splR fu).ri] 33)
          obtain ⟨b27, hb27⟩ : ∃ b27, b27 = w14.heap.size := ⟨_, rfl⟩
          rw [← hb27] at hs
          go_upto_region 24 with (fail)
          rw [← hb27]
          clear hb27
          refine wp_ck hs ?_
          clear hs
          intro w15 hs
          have hs : St K2 w15 (blk b27 (.cells #[.int .u64 id, .int .u64 (ltLock 0), .int .i64 (splR fu).lev, (.slice ar (splR fu).sl.length cr), .string (splR fu).hi, .bool (splR fu).la, .int .u64 (splR fu).ri] 33) :: slC (.slice ar (splR fu).sl.length cr) (splR fu) :: insC b .nilFunc d x :: slC x.vr x.ri.pg :: slC x.vl x.le.pg :: slC (.slice aw fu.sl.length cw) fu :: blk bw (.cells #[.int .i64 (p).lev, (.slice aw p.sl.length p.sl.length), .string (p).hi, .bool (p).la, .int .u64 (p).ri] 31) :: blk br (.cells #[.int .i64 ((splR fu)).lev, (.slice (some ⟨ga, p.sl.length * 2, none⟩) (splR fu).sl.length (cw - p.sl.length)), .string ((splR fu)).hi, .bool ((splR fu)).la, .int .u64 ((splR fu)).ri] 31) :: blk bv (.cells #[.int .i64 (d).th, .int .i64 (d).sn, .int .i64 (d).no, .int .i64 (d).ch, .int .i64 (d).re, .int .i64 (d).fa, .int .u64 (d).cl, .slice (some ⟨g2, 0, none⟩) L'.length L'.length] 45) :: memC bm bc L' (j + 1) :: xbC bx d d (.pointer (some ⟨bm, 0, none⟩)) fr (.slice af fr.pg.sl.length cf) key' :: []) := hs
          have hno : id ≤ d.no := by rw [Hid4.out]; exact hO.new rfl
          have hlr := hpR.le
          have hlen' := hO.cels.len
          have hpa : PageAt d id L' (splR fu) := by rw [Hid4.out]; exact pageAt_of (hO.cels.npg rfl) (by show 0 ≤ fu.lev ∧ fu.lev < _; rw [Hfuok.out.lev]; exact HK.out.hfr.lev) hpR.le hpR.la
          have hnw : (getC L' (d.node id 0)).n = ltLock 0 := by rw [Hid4.out]; exact hO.cels.nword rfl
          have hn4' : (getC L' 4).n = id := by rw [Hid4.out]; exact hO.cels.new4 rfl
          have hdr : (splR fu).sl = fu.sl.drop p.sl.length := by
            rw [← Hp.out]
            show fu.sl.drop _ = fu.sl.drop (fu.sl.take _).length
            rw [List.length_take, Nat.min_eq_left (by unfold splK; omega)]
          have QSR := Lib.hid (fun W (h : St K2 W (blk b27 (.cells #[.int .u64 id, .int .u64 (ltLock 0), .int .i64 (splR fu).lev, (.slice ar (splR fu).sl.length cr), .string (splR fu).hi, .bool (splR fu).la, .int .u64 (splR fu).ri] 33) :: slC (.slice ar (splR fu).sl.length cr) (splR fu) :: insC b .nilFunc d x :: slC x.vr x.ri.pg :: slC x.vl x.le.pg :: slC (.slice aw fu.sl.length cw) fu :: blk bw (.cells #[.int .i64 (p).lev, (.slice aw p.sl.length p.sl.length), .string (p).hi, .bool (p).la, .int .u64 (p).ri] 31) :: blk br (.cells #[.int .i64 ((splR fu)).lev, (.slice (some ⟨ga, p.sl.length * 2, none⟩) (splR fu).sl.length (cw - p.sl.length)), .string ((splR fu)).hi, .bool ((splR fu)).la, .int .u64 ((splR fu)).ri] 31) :: blk bv (.cells #[.int .i64 (d).th, .int .i64 (d).sn, .int .i64 (d).no, .int .i64 (d).ch, .int .i64 (d).re, .int .i64 (d).fa, .int .u64 (d).cl, .slice (some ⟨g2, 0, none⟩) L'.length L'.length] 45) :: memC bm bc L' (j + 1) :: xbC bx d d (.pointer (some ⟨bm, 0, none⟩)) fr (.slice af fr.pg.sl.length cf) key' :: [])) => (show SlAt W (some ⟨ga, p.sl.length * 2, none⟩) (splR fu).sl from (by rw [hdr]; exact slAt_drop (by rw [← Hga.out]; exact St.row_slots (l := fu.sl) h.b5 (by omega)) p.sl.length)))
          have QP := Lib.hid (fun (W : World) (cs : List Comp) (h : St K2 W cs) => viewPage_st HK.out.hd (by omega) hno hpa Hg2.out (by omega) h)
          have q := fun (W : World) (cs : List Comp) (h : St K2 W cs) => viewLatch_any HK.out.hd id (by omega) W (vat_of Hg2.out (by omega) h)
          rw [hnw] at q
          have QV := Lib.hid q
          have HhO := Lib.hid hO
          have Hpa := Lib.hid hpa
          clear q hpa hO hdr hnw hpR hpL
          have Hs := Lib.hid hs
          clear hs
          refine region_effectsK [false, false, false, false, false, false, false, false, false, false, false, false, false, false, false, false, false, false, false, false, true, false, true, false, false, false, false, false, false, false, false, false, false, false, false, false, false, false, false, false, false, false] (fun | 22 => some (.bool true) | _ => none) [20, 22] (fun | 22 => [20] | _ => [])
            (GR K2 (blk b27 (.cells #[.int .u64 id, .int .u64 (ltLock 0), .int .i64 (splR fu).lev, (.slice ar (splR fu).sl.length cr), .string (splR fu).hi, .bool (splR fu).la, .int .u64 (splR fu).ri] 33) :: slC (.slice ar (splR fu).sl.length cr) (splR fu) :: insC b .nilFunc d x :: slC x.vr x.ri.pg :: slC x.vl x.le.pg :: slC (.slice aw fu.sl.length cw) fu :: blk bw (.cells #[.int .i64 (p).lev, (.slice aw p.sl.length p.sl.length), .string (p).hi, .bool (p).la, .int .u64 (p).ri] 31) :: blk br (.cells #[.int .i64 ((splR fu)).lev, (.slice (some ⟨ga, p.sl.length * 2, none⟩) (splR fu).sl.length (cw - p.sl.length)), .string ((splR fu)).hi, .bool ((splR fu)).la, .int .u64 ((splR fu)).ri] 31) :: blk bv (.cells #[.int .i64 (d).th, .int .i64 (d).sn, .int .i64 (d).no, .int .i64 (d).ch, .int .i64 (d).re, .int .i64 (d).fa, .int .u64 (d).cl, .slice (some ⟨g2, 0, none⟩) L'.length L'.length] 45) :: memC bm bc L' (j + 1) :: xbC bx d d (.pointer (some ⟨bm, 0, none⟩)) fr (.slice af fr.pg.sl.length cf) key' :: []) [20, 22] (PgΦ (splR fu) 20 22))
            (fun W => St K2 W (blk b27 (.cells #[.int .u64 id, .int .u64 (ltLock 0), .int .i64 (splR fu).lev, (.slice ar (splR fu).sl.length cr), .string (splR fu).hi, .bool (splR fu).la, .int .u64 (splR fu).ri] 33) :: slC (.slice ar (splR fu).sl.length cr) (splR fu) :: insC b .nilFunc d x :: slC x.vr x.ri.pg :: slC x.vl x.le.pg :: slC (.slice aw fu.sl.length cw) fu :: blk bw (.cells #[.int .i64 (p).lev, (.slice aw p.sl.length p.sl.length), .string (p).hi, .bool (p).la, .int .u64 (p).ri] 31) :: blk br (.cells #[.int .i64 ((splR fu)).lev, (.slice (some ⟨ga, p.sl.length * 2, none⟩) (splR fu).sl.length (cw - p.sl.length)), .string ((splR fu)).hi, .bool ((splR fu)).la, .int .u64 ((splR fu)).ri] 31) :: blk bv (.cells #[.int .i64 (d).th, .int .i64 (d).sn, .int .i64 (d).no, .int .i64 (d).ch, .int .i64 (d).re, .int .i64 (d).fa, .int .u64 (d).cl, .slice (some ⟨g2, 0, none⟩) L'.length L'.length] 45) :: memC bm bc L' (j + 1) :: xbC bx d d (.pointer (some ⟨bm, 0, none⟩)) fr (.slice af fr.pg.sl.length cf) key' :: [])) ?yaS (by kernel_rfl) ?yhB ?yH ?yhaS ?yh0 ?yhI ?yhR ?yhE ?yhQ
          case yhB => as_aux_lemma => kernel_rfl
          case yH =>
            -- <ymH
            intro W2 hs
            have kh := hs.k0
            have kr := hs.b7.k0
            have kv := hs.b8.k0
            have c0 := cell4 hs Hg2.out (by omega)
            rw [hn4'] at c0
            have Qv := Lib.hid (fun wz (hy : ∃ x : Ext, wz = over W2 x) => QV.out wz _ (hs.same (Pure.below hy)))
            have Qs := Lib.hid (fun wz (hy : ∃ x : Ext, wz = over W2 x) => samePage_any (cap := cr) (cap' := cw - p.sl.length) wz (show SlAt wz ar (splR fu).sl from (hs.same (Pure.below hy)).b1.row_slots (by omega)) (QSR.out wz (hs.same (Pure.below hy))))
            have Ql := Lib.hid (fun wz => ltLock_any 0 (by decide) (by decide) wz)
            clear hs
            simp only [withK]
            repeat (go_big_quiet_step (first | (go_at_call 18; exact pure_of_same (Ql.out _)) | (go_at_call 14; exact pure_of (Qs.out _ ⟨_, rfl⟩)) | (go_at_call 20; exact pure_of (Qv.out _ ⟨_, rfl⟩))))
            refine wpQuiet_nil ?_
            rfl
            -- ymH>
          case yhaS => rfl
          case yh0 => exact GR.start Hs.out
          case yhI => exact fun ρ W2 h => h.rest
          case yhR => exact fun ρ W2 W3 h hb => h.same hb
          case yhE =>
            refine ⟨?ye20, ?ye22, trivial⟩
            case ye20 =>
              -- <ym20
              intro o ho ρ W2 h hcl h20 hd2 act hact
              obtain rfl := Option.some.inj ho
              replace hact : act = fillD _ ρ [] _ := hact
              obtain ⟨C, R', hx1, hs, hnext⟩ := h.step PgΦ.mono 20 [] (by decide) (by decide) (by decide) h20 (by simp)
              simp only [fillD] at hact
              subst hact
              have Hn := Lib.hid hnext
              clear hnext hx1 h hcl hd2 h20
              go_wp2_with fail
              refine (QP.out _ _ hs).mono ?_
              rintro e W3 ⟨va8, rfl, hs'⟩
              obtain ⟨a8, c8, rfl, _, _⟩ := hs'.row_read
              have Hs' := Lib.hid hs'
              clear hs hs'
              go_wp2
              exact ⟨rfl, _, rfl, fun u hu => (by cases hu), Hn.out _ _ W3 ⟨a8, c8, rfl, rfl⟩ Hs'.out⟩
              -- ym20>
            case ye22 =>
              -- <ym22
              intro o ho ρ W2 h hcl h22 hd2 act hact
              obtain rfl := Option.some.inj ho
              replace hact : act = fillD _ ρ [20] _ := hact
              obtain ⟨v20, h20⟩ := Option.isSome_iff_exists.1 (hd2 20 (by show _ ∈ [20]; simp))
              obtain ⟨cs8, R8, ⟨a8, c8, rfl, rfl⟩, hs8⟩ := h.at 20 (by simp) h20
              have s8 := hs8.row_slots (by omega)
              have sx : SlAt W2 (some ⟨ga, p.sl.length * 2, none⟩) (splR fu).sl := QSR.out W2 h.rest
              have S8 := Lib.hid s8
              have SX := Lib.hid sx
              have H := Lib.hid h
              have H11 := Lib.hid h22
              simp only [fillD, h20, Option.getD_some, dstAt, List.getElem?_cons_succ, List.getElem?_cons_zero, Option.bind_some, Option.bind_none, Act.put, List.setIfInBounds_toArray, List.set_cons_zero, List.set_cons_succ] at hact
              subst hact
              clear hs8 h hcl hd2 h20 h22 s8 sx
              go_wp2_with fail
              refine (samePage_any W2 S8.out SX.out).mono ?_
              rintro e W3 ⟨rfl, hb⟩
              have Hb := Lib.hid hb
              clear hb
              go_wp2
              exact ⟨rfl, _, rfl, fun u hu => Option.some.inj hu, (H.out.same Hb.out).know PgΦ.mono 22 (by decide) (by simp) H11.out _ ⟨rfl, rfl⟩⟩
              -- ym22>
          case yhQ =>
            -- <ymQ
            intro ρ W2 h hall
            have hs := h.rest
            clear h
            simp only [fillD, Option.getD_some, dstAt, List.getElem?_cons_succ, List.getElem?_cons_zero, Option.bind_some, Option.bind_none, Act.put, List.setIfInBounds_toArray, List.set_cons_zero, List.set_cons_succ]
            go_wp2
            go_meet
            exact ⟨_, by rw [Hh.out], by rw [Hsv.out, Hh.out]; rfl, (hs.re [0, 1, 7, 2, 4, 3, 5, 6, 8, 9, 10] rfl).tail.tail.tail⟩
            -- ymQ>
        -- SPL>
        -- <NSP
        · as_aux_lemma =>
          have hO : OutOk d fr fu L x L' p false := by rw [← h]; exact HOk.out
          rw [h]
          have Hh := Lib.hid h
          obtain rfl : fu = p := hO.pp.symm
          have hs := hs.tail
          have QR := Lib.hid (fun W (R : List Comp) (h : St K2 W (insC b .nilFunc d x :: slC x.vr x.ri.pg :: R)) => insRightN hO h)
          have hn4' : (getC L' 4).n = (getC L 4).n := by rw [hO.cels.n4 rfl]
          have hlen' := hO.cels.len
          have HhO := Lib.hid hO
          clear hO h
          go_upto_region 26 with (fail)
          have Hs := Lib.hid hs
          clear hs
          refine region_effectsK [false, true, true, false, false, false, false, false, false, false, false, false, false, false, false, false] (fun | 2 => some (.int .u64 0) | _ => none) [1, 2] (fun | 2 => [1] | _ => [])
            (GR K2 (insC b .nilFunc d x :: slC x.vl x.le.pg :: slC x.vr x.ri.pg :: slC (.slice aw fu.sl.length cw) fu :: blk bw (.cells #[.int .i64 (fu).lev, (.slice aw fu.sl.length cw), .string (fu).hi, .bool (fu).la, .int .u64 (fu).ri] 31) :: blk bv (.cells #[.int .i64 (d).th, .int .i64 (d).sn, .int .i64 (d).no, .int .i64 (d).ch, .int .i64 (d).re, .int .i64 (d).fa, .int .u64 (d).cl, .slice (some ⟨g2, 0, none⟩) L'.length L'.length] 45) :: memC bm bc L' (j + 1) :: xbC bx d d (.pointer (some ⟨bm, 0, none⟩)) fr (.slice af fr.pg.sl.length cf) key' :: []) [1, 2] (RnΦ hd0))
            (fun W => St K2 W (insC b .nilFunc d x :: slC x.vl x.le.pg :: slC x.vr x.ri.pg :: slC (.slice aw fu.sl.length cw) fu :: blk bw (.cells #[.int .i64 (fu).lev, (.slice aw fu.sl.length cw), .string (fu).hi, .bool (fu).la, .int .u64 (fu).ri] 31) :: blk bv (.cells #[.int .i64 (d).th, .int .i64 (d).sn, .int .i64 (d).no, .int .i64 (d).ch, .int .i64 (d).re, .int .i64 (d).fa, .int .u64 (d).cl, .slice (some ⟨g2, 0, none⟩) L'.length L'.length] 45) :: memC bm bc L' (j + 1) :: xbC bx d d (.pointer (some ⟨bm, 0, none⟩)) fr (.slice af fr.pg.sl.length cf) key' :: [])) ?zaS (by kernel_rfl) ?zhB ?zH ?zhaS ?zh0 ?zhI ?zhR ?zhE ?zhQ
          case zhB => as_aux_lemma => kernel_rfl
          case zH =>
            -- <zmH
            intro W2 hs
            have kv := hs.b5.k0
            have c0 := cell4 hs Hg2.out (by omega)
            have d0 := cell4 hs Hg1.out (by omega)
            rw [hn4'] at c0
            clear hs
            simp only [withK]
            repeat (go_big_quiet_step (fail))
            refine wpQuiet_nil ?_
            rfl
            -- zmH>
          case zhaS => rfl
          case zh0 => exact GR.start Hs.out
          case zhI => exact fun ρ W2 h => h.rest
          case zhR => exact fun ρ W2 W3 h hb => h.same hb
          case zhE =>
            refine ⟨?ze1, ?ze2, trivial⟩
            case ze1 =>
              -- <zm1
              intro o ho ρ W2 h hcl h1 hd2 act hact
              obtain rfl := Option.some.inj ho
              replace hact : act = fillD _ ρ [] _ := hact
              obtain ⟨C, R', hx1, hs, hnext⟩ := h.step RnΦ.mono 1 [] (by decide) (by decide) (by decide) h1 (by simp)
              simp only [fillD] at hact
              subst hact
              have Hn := Lib.hid hnext
              clear hnext hx1 h hcl hd2 h1
              go_wp2_with fail
              refine (QR.out _ _ (hs.re [0, 2, 1] rfl)).mono ?_
              rintro e W3 ⟨va8, rfl, hs'⟩
              obtain ⟨a8, c8, rfl, _, _⟩ := hs'.row_read
              have Hs' := Lib.hid (hs'.re [0, 1, 3, 2] rfl)
              clear hs hs'
              go_wp2
              exact ⟨rfl, _, rfl, fun u hu => (by cases hu), Hn.out _ _ W3 ⟨a8, c8, rfl, rfl⟩ Hs'.out⟩
              -- zm1>
            case ze2 =>
              -- <zm2
              intro o ho ρ W2 h hcl h2 hd2 act hact
              obtain rfl := Option.some.inj ho
              replace hact : act = fillD _ ρ [1] _ := hact
              obtain ⟨v1, h1⟩ := Option.isSome_iff_exists.1 (hd2 1 (by show _ ∈ [1]; simp))
              obtain ⟨cs8, R8, ⟨a8, c8, rfl, rfl⟩, hs8⟩ := h.at 1 (by simp) h1
              simp only [fillD, h1, Option.getD_some, dstAt, List.getElem?_cons_succ, List.getElem?_cons_zero, Option.bind_some, Option.bind_none, Act.put, List.setIfInBounds_toArray, List.set_cons_zero, List.set_cons_succ] at hact
              subst hact
              have H := Lib.hid (h.know RnΦ.mono 2 (by decide) (by simp) h2 _ ⟨rfl, rfl⟩)
              clear h hs8 hcl hd2 h2 h1
              go_wp2
              exact ⟨rfl, _, rfl, fun u hu => Option.some.inj hu, H.out⟩
              -- zm2>
          case zhQ =>
            -- <zmQ
            intro ρ W2 h hall
            have hs := h.rest
            clear h
            simp only [fillD, Option.getD_some, dstAt, List.getElem?_cons_succ, List.getElem?_cons_zero, Option.bind_some, Option.bind_none, Act.put, List.setIfInBounds_toArray, List.set_cons_zero, List.set_cons_succ]
            go_wp2
            go_meet
            exact ⟨_, by rw [Hh.out], by rw [Hsv.out, Hh.out]; rfl, hs⟩
            -- zmQ>
        -- NSP>
      case rest =>
      clear hs
      obtain ⟨cp, rfl, rfl, hs⟩ := hcut
      apply_assumption
      have hfa1 := HK.out.hd.fa1
      have hfa2 := HK.out.hd.fa2
      have hlen' := HOk.out.cels.len
      have hpk : PgOk d p := by
        have hO := HOk.out.pp
        cases hsp : sp with
        | true => rw [hsp] at hO; rw [hO]; exact Hfuok.out.left HK.out.hd (by rw [← Hid4.out]; omega)
        | false =>
          rw [hsp] at hO
          have hl : ¬ d.fa < (fu.sl.length : Int) := of_decide_eq_false (Hsp.out.symm.trans hsp)
          rw [show p = fu from hO]
          exact ⟨by omega, Hfuok.out.ri, Hfuok.out.r, fun s hs => Nat.le_trans (Hfuok.out.k s hs) (by decide), Hfuok.out.hi, Hfuok.out.la⟩
      have hplev : 0 ≤ p.lev ∧ p.lev < 1000000 := by
        have hO := HOk.out.pp
        have h0 := HK.out.hfr.lev
        rw [← Hfuok.out.lev] at h0
        cases hsp : sp with
        | true => rw [hsp] at hO; rw [hO]; exact h0
        | false => rw [hsp] at hO; rw [show p = fu from hO]; exact h0
      have Hpa : Hid (PageAt d 2 L' p) := Lib.hid (by rw [← HK.out.id]; exact pageAt_of HOk.out.cels.pg hplev hpk.le hpk.la)
      have HSP : Hid (∀ W, SlAt W aw fu.sl → SlAt W aw p.sl) := Lib.hid (fun W h => by
        have hO := HOk.out.pp
        cases hsp : sp with
        | true => rw [hsp] at hO; rw [hO]; exact slAt_take h _
        | false => rw [hsp] at hO; rw [show p = fu from hO]; exact h)
      have hnw : (getC L' (d.node 2 0)).n = ltEnd (ltBegin fr.word) := by rw [← HK.out.id]; exact HOk.out.cels.word
      clear hplev
      -- <RST
      as_aux_lemma =>
      have q := insLeftO HOk.out (by have := hpk.le; omega) hs
      have Q := Lib.hid q
      clear q hs
      go_wp2_with fail
      refine (Q.out).mono ?_
      clear Q
      rintro e w16 ⟨vl8, rfl, hs⟩
      obtain ⟨al, cl, rfl, _, _⟩ := hs.row_read
      have hs := hs.made (.cells #[.int .u64 fr.id, .int .u64 (ltEnd (ltBegin fr.word)), .int .i64 p.lev, (.slice al p.sl.length cl), .string p.hi, .bool p.la, .int .u64 p.ri] 33)
      obtain ⟨b28, hb28⟩ : ∃ b28, b28 = w16.heap.size := ⟨_, rfl⟩
      rw [← hb28] at hs
      go_upto_region 29 with (fail)
      rw [← hb28]
      clear hb28
      refine wp_ck hs ?_
      clear hs
      intro w17 hs
      have hs : St K2 w17 (blk b28 (.cells #[.int .u64 fr.id, .int .u64 (ltEnd (ltBegin fr.word)), .int .i64 p.lev, (.slice al p.sl.length cl), .string p.hi, .bool p.la, .int .u64 p.ri] 33) :: slC (.slice al p.sl.length cl) p :: insC b .nilFunc d x :: slC x.vl x.le.pg :: slC x.vr x.ri.pg :: slC (.slice aw fu.sl.length cw) fu :: blk bw (.cells #[.int .i64 (p).lev, (.slice aw p.sl.length cp), .string (p).hi, .bool (p).la, .int .u64 (p).ri] 31) :: blk bv (.cells #[.int .i64 (d).th, .int .i64 (d).sn, .int .i64 (d).no, .int .i64 (d).ch, .int .i64 (d).re, .int .i64 (d).fa, .int .u64 (d).cl, .slice (some ⟨g2, 0, none⟩) L'.length L'.length] 45) :: memC bm bc L' (j + 1) :: xbC bx d d (.pointer (some ⟨bm, 0, none⟩)) fr (.slice af fr.pg.sl.length cf) key' :: []) := hs
      go_cut [276] from 999 to 0 (fun v276 wx => v276 = .bool false ∧ St K2 wx (blk b28 (.cells #[.int .u64 fr.id, .int .u64 (ltEnd (ltBegin fr.word)), .int .i64 p.lev, (.slice al p.sl.length cl), .string p.hi, .bool p.la, .int .u64 p.ri] 33) :: slC (.slice al p.sl.length cl) p :: insC b .nilFunc d x :: slC x.vl x.le.pg :: slC x.vr x.ri.pg :: slC (.slice aw fu.sl.length cw) fu :: blk bw (.cells #[.int .i64 (p).lev, (.slice aw p.sl.length cp), .string (p).hi, .bool (p).la, .int .u64 (p).ri] 31) :: blk bv (.cells #[.int .i64 (d).th, .int .i64 (d).sn, .int .i64 (d).no, .int .i64 (d).ch, .int .i64 (d).re, .int .i64 (d).fa, .int .u64 (d).cl, .slice (some ⟨g2, 0, none⟩) L'.length L'.length] 45) :: memC bm bc L' (j + 1) :: xbC bx d d (.pointer (some ⟨bm, 0, none⟩)) fr (.slice af fr.pg.sl.length cf) key' :: []))
      case first =>
        as_aux_lemma =>
        have QSP := Lib.hid (fun W (h : St K2 W (blk b28 (.cells #[.int .u64 fr.id, .int .u64 (ltEnd (ltBegin fr.word)), .int .i64 p.lev, (.slice al p.sl.length cl), .string p.hi, .bool p.la, .int .u64 p.ri] 33) :: slC (.slice al p.sl.length cl) p :: insC b .nilFunc d x :: slC x.vl x.le.pg :: slC x.vr x.ri.pg :: slC (.slice aw fu.sl.length cw) fu :: blk bw (.cells #[.int .i64 (p).lev, (.slice aw p.sl.length cp), .string (p).hi, .bool (p).la, .int .u64 (p).ri] 31) :: blk bv (.cells #[.int .i64 (d).th, .int .i64 (d).sn, .int .i64 (d).no, .int .i64 (d).ch, .int .i64 (d).re, .int .i64 (d).fa, .int .u64 (d).cl, .slice (some ⟨g2, 0, none⟩) L'.length L'.length] 45) :: memC bm bc L' (j + 1) :: xbC bx d d (.pointer (some ⟨bm, 0, none⟩)) fr (.slice af fr.pg.sl.length cf) key' :: [])) => (show SlAt W aw p.sl from HSP.out W (St.row_slots (l := fu.sl) h.b5 (by omega))))
        have hno2 : 2 ≤ d.no := by have := HK.out.no; omega
        have hple := hpk.le
        have QP := Lib.hid (fun (W : World) (cs : List Comp) (h : St K2 W cs) => viewPage_st (id := 2) HK.out.hd (by omega) (by omega) Hpa.out Hg2.out (by omega) h)
        have q := fun (W : World) (cs : List Comp) (h : St K2 W cs) => viewLatch_any HK.out.hd 2 (by omega) W (vat_of Hg2.out (by omega) h)
        rw [hnw] at q
        have QV := Lib.hid q
        obtain ⟨hwd0, hwd1⟩ := HK.out.hfr.word
        have hid3 : (fr.id != 2) = false := by rw [HK.out.id]; rfl
        have hwb := ltBegin_bd hwd0 hwd1
        have hid2 : (fr.id == 2) = true := by rw [HK.out.id]; rfl
        clear q
        have Hs := Lib.hid hs
        clear hs
        refine region_effectsK [false, false, false, false, false, false, false, false, false, false, false, false, false, false, false, false, false, false, false, false, false, false, false, false, false, false, false, false, false, false, false, false, false, false, false, false, false, false, false, false, true, false, true, false, false] (fun | 42 => some (.bool true) | _ => none) [40, 42] (fun | 42 => [40] | _ => [])
          (GR K2 (blk b28 (.cells #[.int .u64 fr.id, .int .u64 (ltEnd (ltBegin fr.word)), .int .i64 p.lev, (.slice al p.sl.length cl), .string p.hi, .bool p.la, .int .u64 p.ri] 33) :: slC (.slice al p.sl.length cl) p :: insC b .nilFunc d x :: slC x.vl x.le.pg :: slC x.vr x.ri.pg :: slC (.slice aw fu.sl.length cw) fu :: blk bw (.cells #[.int .i64 (p).lev, (.slice aw p.sl.length cp), .string (p).hi, .bool (p).la, .int .u64 (p).ri] 31) :: blk bv (.cells #[.int .i64 (d).th, .int .i64 (d).sn, .int .i64 (d).no, .int .i64 (d).ch, .int .i64 (d).re, .int .i64 (d).fa, .int .u64 (d).cl, .slice (some ⟨g2, 0, none⟩) L'.length L'.length] 45) :: memC bm bc L' (j + 1) :: xbC bx d d (.pointer (some ⟨bm, 0, none⟩)) fr (.slice af fr.pg.sl.length cf) key' :: []) [40, 42] (PgΦ p 40 42))
          (fun W => St K2 W (blk b28 (.cells #[.int .u64 fr.id, .int .u64 (ltEnd (ltBegin fr.word)), .int .i64 p.lev, (.slice al p.sl.length cl), .string p.hi, .bool p.la, .int .u64 p.ri] 33) :: slC (.slice al p.sl.length cl) p :: insC b .nilFunc d x :: slC x.vl x.le.pg :: slC x.vr x.ri.pg :: slC (.slice aw fu.sl.length cw) fu :: blk bw (.cells #[.int .i64 (p).lev, (.slice aw p.sl.length cp), .string (p).hi, .bool (p).la, .int .u64 (p).ri] 31) :: blk bv (.cells #[.int .i64 (d).th, .int .i64 (d).sn, .int .i64 (d).no, .int .i64 (d).ch, .int .i64 (d).re, .int .i64 (d).fa, .int .u64 (d).cl, .slice (some ⟨g2, 0, none⟩) L'.length L'.length] 45) :: memC bm bc L' (j + 1) :: xbC bx d d (.pointer (some ⟨bm, 0, none⟩)) fr (.slice af fr.pg.sl.length cf) key' :: [])) ?taS (by kernel_rfl) ?thB ?tH ?thaS ?th0 ?thI ?thR ?thE ?thQ
        case thB => as_aux_lemma => kernel_rfl
        case tH =>
          -- <tmH
          intro W2 hs
          have kh := hs.k0
          have kw := hs.b6.k0
          have kv := hs.b7.k0
          have kx := hs.b9.k0
          unfold xbL at kx
          have Qe := Lib.hid (fun wz (hy : ∃ x : Ext, wz = over W2 x) => insErrO HOk.out (hs.same (Pure.below hy)).b2)
          have qse := fun wz (hy : ∃ x : Ext, wz = over W2 x) => insSepO HOk.out (hs.same (Pure.below hy)).b2
          rw [← Hsv.out] at qse
          have Qse := Lib.hid qse
          clear qse
          have Qv := Lib.hid (fun wz (hy : ∃ x : Ext, wz = over W2 x) => QV.out wz _ (hs.same (Pure.below hy)))
          have Qs := Lib.hid (fun wz (hy : ∃ x : Ext, wz = over W2 x) => samePage_any (cap := cl) (cap' := cp) wz (show SlAt wz al p.sl from (hs.same (Pure.below hy)).b1.row_slots (by omega)) (QSP.out wz (hs.same (Pure.below hy))))
          have Qb := Lib.hid (fun wz => ltBegin_any fr.word hwd0 hwd1 wz)
          have Qn := Lib.hid (fun wz => ltEnd_any (ltBegin fr.word) hwb.1 hwb.2 wz)
          clear hs
          simp only [withK]
          repeat (go_big_quiet_step (first | (go_at_call 12; exact pure_of_same (Qe.out _ ⟨_, rfl⟩)) | (go_at_call 21; exact pure_of_same (Qse.out _ ⟨_, rfl⟩)) | (go_at_call 23; exact pure_of_same (Qb.out _)) | (go_at_call 22; exact pure_of_same (Qn.out _)) | (go_at_call 14; exact pure_of (Qs.out _ ⟨_, rfl⟩)) | (go_at_call 20; exact pure_of (Qv.out _ ⟨_, rfl⟩))))
          refine wpQuiet_nil ?_
          rfl
          -- tmH>
        case thaS => rfl
        case th0 => exact GR.start Hs.out
        case thI => exact fun ρ W2 h => h.rest
        case thR => exact fun ρ W2 W3 h hb => h.same hb
        case thE =>
          refine ⟨?te40, ?te42, trivial⟩
          case te40 =>
            -- <tm40
            intro o ho ρ W2 h hcl h40 hd2 act hact
            obtain rfl := Option.some.inj ho
            replace hact : act = fillD _ ρ [] _ := hact
            obtain ⟨C, R', hx1, hs, hnext⟩ := h.step PgΦ.mono 40 [] (by decide) (by decide) (by decide) h40 (by simp)
            simp only [fillD] at hact
            subst hact
            have Hn := Lib.hid hnext
            clear hnext hx1 h hcl hd2 h40
            go_wp2_with fail
            refine (QP.out _ _ hs).mono ?_
            rintro e W3 ⟨va8, rfl, hs'⟩
            obtain ⟨a8, c8, rfl, _, _⟩ := hs'.row_read
            have Hs' := Lib.hid hs'
            clear hs hs'
            go_wp2
            exact ⟨rfl, _, rfl, fun u hu => (by cases hu), Hn.out _ _ W3 ⟨a8, c8, rfl, rfl⟩ Hs'.out⟩
            -- tm40>
          case te42 =>
            -- <tm42
            intro o ho ρ W2 h hcl h42 hd2 act hact
            obtain rfl := Option.some.inj ho
            replace hact : act = fillD _ ρ [40] _ := hact
            obtain ⟨v40, h40⟩ := Option.isSome_iff_exists.1 (hd2 40 (by show _ ∈ [40]; simp))
            obtain ⟨cs8, R8, ⟨a8, c8, rfl, rfl⟩, hs8⟩ := h.at 40 (by simp) h40
            have s8 := hs8.row_slots (by omega)
            have sx : SlAt W2 aw p.sl := QSP.out W2 h.rest
            have S8 := Lib.hid s8
            have SX := Lib.hid sx
            have H := Lib.hid h
            have H11 := Lib.hid h42
            simp only [fillD, h40, Option.getD_some, dstAt, List.getElem?_cons_succ, List.getElem?_cons_zero, Option.bind_some, Option.bind_none, Act.put, List.setIfInBounds_toArray, List.set_cons_zero, List.set_cons_succ] at hact
            subst hact
            clear hs8 h hcl hd2 h40 h42 s8 sx
            go_wp2_with fail
            refine (samePage_any W2 S8.out SX.out).mono ?_
            rintro e W3 ⟨rfl, hb⟩
            have Hb := Lib.hid hb
            clear hb
            go_wp2
            exact ⟨rfl, _, rfl, fun u hu => Option.some.inj hu, (H.out.same Hb.out).know PgΦ.mono 42 (by decide) (by simp) H11.out _ ⟨rfl, rfl⟩⟩
            -- tm42>
        case thQ =>
          -- <tmQ
          intro ρ W2 h hall
          have hs := h.rest
          clear h
          simp only [fillD, Option.getD_some, dstAt, List.getElem?_cons_succ, List.getElem?_cons_zero, Option.bind_some, Option.bind_none, Act.put, List.setIfInBounds_toArray, List.set_cons_zero, List.set_cons_succ]
          go_wp2
          go_meet
          exact ⟨rfl, hs⟩
          -- tmQ>
      case rest =>
      clear hs
      obtain ⟨rfl, hs⟩ := hcut
      apply_assumption
      as_aux_lemma =>
      have hs : St K2 wc (xbC bx d d (.pointer (some ⟨bm, 0, none⟩)) fr (.slice af fr.pg.sl.length cf) key' :: blk bv (.cells #[.int .i64 (d).th, .int .i64 (d).sn, .int .i64 (d).no, .int .i64 (d).ch, .int .i64 (d).re, .int .i64 (d).fa, .int .u64 (d).cl, .slice (some ⟨g2, 0, none⟩) L'.length L'.length] 45) :: []) := (hs.re [0, 1, 2, 3, 4, 5, 6, 8, 9, 7] rfl).tail.tail.tail.tail.tail.tail.tail.tail
      have HN2 := Lib.hid (fun (k : Int) (h1 : 0 ≤ k) (h2 : k < d.fa + 4) w => refNode_any d HK.out.hd 2 k (by decide) (by decide) h1 h2 w)
      have HNi := Lib.hid (fun (k : Int) (h1 : 0 ≤ k) (h2 : k < d.fa + 4) w => refNode_any d HK.out.hd id k (by omega) (by omega) h1 h2 w)
      have hC := HOk.out.cels.other
      rw [HK.out.id, ← Hid4.out] at hC
      have HC := Lib.hid hC
      clear hC
      have hf1 := HK.out.hd.fa1
      have hf2 := HK.out.hd.fa2
      obtain ⟨N, hN⟩ : ∃ N, N = L.length := ⟨_, rfl⟩
      have hN' : N = L'.length := by omega
      have hNb : N ≤ 2000000 := by omega
      have HlN := Lib.hid hN
      have HlN' := Lib.hid hN'
      clear hnw hpk hlen' hlen
      go_upto_region 31 with (fail)
      rw [← HlN.out]
      clear hN hN'
      go_wp2
      rcases Bool.eq_false_or_eq_true sp with h | h
      -- <LPT
      · as_aux_lemma =>
        rw [h]
        have Hsp2 := Lib.hid h
        clear h
        go_loopw [29, 30, 31] (fun v29 v30 v31 wr => ∃ i : Nat, i ≤ N ∧ v29 = .int .i64 (i : Int) ∧ St K2 wr (xbC bx d d (.pointer (some ⟨bm, 0, none⟩)) fr (.slice af fr.pg.sl.length cf) key' :: blk bv (.cells #[.int .i64 (d).th, .int .i64 (d).sn, .int .i64 (d).no, .int .i64 (d).ch, .int .i64 (d).re, .int .i64 (d).fa, .int .u64 (d).cl, .slice (some ⟨g2, 0, none⟩) L'.length L'.length] 45) :: [])) (fun v _ _ _ => N - (intOf v).toNat)
        case atStart => exact ⟨0, by omega, rfl, hs⟩
        case round =>
          clear hs
          obtain ⟨i, hin, rfl, hs⟩ := hrel
          by_cases hlt : i < N
          · go_wp2
            go_loopw [30, 31] (fun v30 v31 wr => ∃ (k : Nat) (b : Bool), (k : Int) ≤ d.fa + 4 ∧ v30 = .bool b ∧ v31 = .int .i64 (k : Int) ∧ Hid (b = false → (i : Int) ≠ 4 ∧ ∀ k2 : Int, 0 ≤ k2 → k2 < k → (i : Int) ≠ d.node 2 k2 ∧ (sp = true → (i : Int) ≠ d.node id k2)) ∧ St K2 wr (xbC bx d d (.pointer (some ⟨bm, 0, none⟩)) fr (.slice af fr.pg.sl.length cf) key' :: blk bv (.cells #[.int .i64 (d).th, .int .i64 (d).sn, .int .i64 (d).no, .int .i64 (d).ch, .int .i64 (d).re, .int .i64 (d).fa, .int .u64 (d).cl, .slice (some ⟨g2, 0, none⟩) L'.length L'.length] 45) :: [])) (fun _ v _ => 100 - (intOf v).toNat)
            case atStart => exact ⟨0, _, by omega, rfl, rfl, Lib.hid (fun h => ⟨by simpa using h, fun k2 h1 h2 => by omega⟩), hs⟩
            case round =>
              clear hs
              obtain ⟨k, b, hk, rfl, rfl, Hb, hs⟩ := hrel
              have kx := hs.k0
              unfold xbL at kx
              by_cases hlt2 : (k : Int) < d.fa + 4
              · cases b
                · have Q2 := Lib.hid (fun w => HN2.out k (by omega) hlt2 w)
                  have Qi := Lib.hid (fun w => HNi.out k (by omega) hlt2 w)
                  go_wp2_with fail
                  refine (calls_same hs (Q2.out _)).mono ?_
                  clear hs kx Q2
                  rintro e w18 ⟨rfl, hs⟩
                  have kx := hs.k0
                  unfold xbL at kx
                  by_cases h1 : (i : Int) = d.node 2 k
                  · have h2 : ((i : Int) == d.node 2 k) = true := beq_iff_eq.2 h1
                    have Hh1 := Lib.hid h1
                    clear h1
                    go_wp2
                    go_roundw
                    case rel => exact ⟨k + 1, true, by omega, rfl, by go_num, Lib.hid (fun h => by cases h), hs⟩
                    case measure => simp [intOf]; omega
                  · have h2 : ((i : Int) == d.node 2 k) = false := beq_eq_false_iff_ne.2 h1
                    have Hh1 := Lib.hid h1
                    clear h1
                    go_wp2_with fail
                    refine (calls_same hs (Qi.out _)).mono ?_
                    clear hs kx Qi
                    rintro e w19 ⟨rfl, hs⟩
                    go_wp2
                    go_roundw
                    case rel => exact ⟨k + 1, _, by omega, rfl, by go_num, Lib.hid (fun hb => ⟨(Hb.out (by simp)).1, fun k2 h3 h4 => by
                      by_cases he : k2 = k
                      · rw [he]; exact ⟨Hh1.out, fun _ => by simpa using hb⟩
                      · have := (Hb.out (by simp)).2 k2 h3 (by omega)
                        exact ⟨this.1, fun hh => this.2 hh⟩⟩), hs⟩
                    case measure => simp [intOf]; omega
                · go_wp2
                  go_roundw
                  case rel => exact ⟨k + 1, true, by omega, rfl, by go_num, Lib.hid (fun hb => by cases hb), hs⟩
                  case measure => simp [intOf]; omega
              · go_upto_region 39 with (fail)
                go_cut [327] from 999 to 0 (fun v327 wx => v327 = .bool false ∧ St K2 wx (xbC bx d d (.pointer (some ⟨bm, 0, none⟩)) fr (.slice af fr.pg.sl.length cf) key' :: blk bv (.cells #[.int .i64 (d).th, .int .i64 (d).sn, .int .i64 (d).no, .int .i64 (d).ch, .int .i64 (d).re, .int .i64 (d).fa, .int .u64 (d).cl, .slice (some ⟨g2, 0, none⟩) L'.length L'.length] 45) :: []))
                case first =>
                  as_aux_lemma =>
                  have kv := hs.b1.k0
                  have hl1 : (i : Int) < (L'.length : Int) := by have := HlN'.out; omega
                  have hl2 : (i : Int) < (N : Int) := by omega
                  cases b
                  · obtain ⟨h4, hk2⟩ := Hb.out (by simp)
                    have he : getC L' i = getC L i := HC.out i h4 (fun k2 a1 a2 => (hk2 k2 a1 (by omega)).1) (fun hsp k2 a1 a2 => (hk2 k2 a1 (by omega)).2 hsp)
                    have z1 := getC_at (L := L') (n := i) (by rw [← HlN'.out]; exact hlt)
                    have z2 := getC_at (L := L) (n := i) (by rw [← HlN.out]; exact hlt)
                    rw [he] at z1
                    obtain ⟨cc, hcc⟩ : ∃ cc, cc = getC L i := ⟨_, rfl⟩
                    rw [← hcc] at z1 z2
                    obtain ⟨c0, c1, c2⟩ := flat_cell (hs.know g2 _ Hg2.out) z1
                    obtain ⟨d0, d1, d2⟩ := flat_cell (hs.know g _ Hg1.out) z2
                    have hq := neq_cell cc.n cc.m cc.k
                    clear z1 z2 he h4 hk2 hcc
                    refine region_pure (by kernel_rfl) (by as_aux_lemma => kernel_rfl) ?_
                    repeat (go_big_quiet_step (fail))
                    refine wpQuiet_nil ?_
                    intro w2 hb2
                    have hs := hs.same hb2
                    clear c0 c1 c2 d0 d1 d2 hq hb2 kv
                    go_wp2
                    go_meet
                    exact ⟨rfl, hs⟩
                  · refine region_pure (by kernel_rfl) (by as_aux_lemma => kernel_rfl) ?_
                    go_big_quiet_step (fail)
                    repeat (go_big_quiet_step (fail))
                    refine wpQuiet_nil ?_
                    intro w2 hb2
                    have hs := hs.same hb2
                    clear hb2 kv
                    go_wp2
                    go_meet
                    exact ⟨rfl, hs⟩
                case rest =>
                clear hs
                obtain ⟨rfl, hs⟩ := hcut
                apply_assumption
                go_wp2
                go_roundw
                case rel => exact ⟨i + 1, by omega, by go_num, hs⟩
                case measure => simp [intOf]; omega
          · go_wp2
            go_ret
            exact ⟨rfl, hs.below HK2.out⟩
      -- LPT>
      -- <LPF
      · as_aux_lemma =>
        rw [h]
        have Hsp2 := Lib.hid h
        clear h
        go_loopw [29, 30, 31] (fun v29 v30 v31 wr => ∃ i : Nat, i ≤ N ∧ v29 = .int .i64 (i : Int) ∧ St K2 wr (xbC bx d d (.pointer (some ⟨bm, 0, none⟩)) fr (.slice af fr.pg.sl.length cf) key' :: blk bv (.cells #[.int .i64 (d).th, .int .i64 (d).sn, .int .i64 (d).no, .int .i64 (d).ch, .int .i64 (d).re, .int .i64 (d).fa, .int .u64 (d).cl, .slice (some ⟨g2, 0, none⟩) L'.length L'.length] 45) :: [])) (fun v _ _ _ => N - (intOf v).toNat)
        case atStart => exact ⟨0, by omega, rfl, hs⟩
        case round =>
          clear hs
          obtain ⟨i, hin, rfl, hs⟩ := hrel
          by_cases hlt : i < N
          · go_wp2
            go_loopw [30, 31] (fun v30 v31 wr => ∃ (k : Nat) (b : Bool), (k : Int) ≤ d.fa + 4 ∧ v30 = .bool b ∧ v31 = .int .i64 (k : Int) ∧ Hid (b = false → (i : Int) ≠ 4 ∧ ∀ k2 : Int, 0 ≤ k2 → k2 < k → (i : Int) ≠ d.node 2 k2 ∧ (sp = true → (i : Int) ≠ d.node id k2)) ∧ St K2 wr (xbC bx d d (.pointer (some ⟨bm, 0, none⟩)) fr (.slice af fr.pg.sl.length cf) key' :: blk bv (.cells #[.int .i64 (d).th, .int .i64 (d).sn, .int .i64 (d).no, .int .i64 (d).ch, .int .i64 (d).re, .int .i64 (d).fa, .int .u64 (d).cl, .slice (some ⟨g2, 0, none⟩) L'.length L'.length] 45) :: [])) (fun _ v _ => 100 - (intOf v).toNat)
            case atStart => exact ⟨0, _, by omega, rfl, rfl, Lib.hid (fun h => ⟨by simpa using h, fun k2 h1 h2 => by omega⟩), hs⟩
            case round =>
              clear hs
              obtain ⟨k, b, hk, rfl, rfl, Hb, hs⟩ := hrel
              have kx := hs.k0
              unfold xbL at kx
              by_cases hlt2 : (k : Int) < d.fa + 4
              · cases b
                · have Q2 := Lib.hid (fun w => HN2.out k (by omega) hlt2 w)
                  have Qi := Lib.hid (fun w => HNi.out k (by omega) hlt2 w)
                  go_wp2_with fail
                  refine (calls_same hs (Q2.out _)).mono ?_
                  clear hs kx Q2
                  rintro e w18 ⟨rfl, hs⟩
                  have kx := hs.k0
                  unfold xbL at kx
                  by_cases h1 : (i : Int) = d.node 2 k
                  · have h2 : ((i : Int) == d.node 2 k) = true := beq_iff_eq.2 h1
                    have Hh1 := Lib.hid h1
                    clear h1
                    go_wp2
                    go_roundw
                    case rel => exact ⟨k + 1, true, by omega, rfl, by go_num, Lib.hid (fun h => by cases h), hs⟩
                    case measure => simp [intOf]; omega
                  · have h2 : ((i : Int) == d.node 2 k) = false := beq_eq_false_iff_ne.2 h1
                    have Hh1 := Lib.hid h1
                    clear h1
                    go_wp2
                    go_roundw
                    case rel => exact ⟨k + 1, false, by omega, rfl, by go_num, Lib.hid (fun hb => ⟨(Hb.out (by simp)).1, fun k2 h3 h4 => by
                      by_cases he : k2 = k
                      · rw [he]; exact ⟨Hh1.out, fun hh => by rw [Hsp2.out] at hh; cases hh⟩
                      · have := (Hb.out (by simp)).2 k2 h3 (by omega)
                        exact ⟨this.1, fun hh => by rw [Hsp2.out] at hh; cases hh⟩⟩), hs⟩
                    case measure => simp [intOf]; omega
                · go_wp2
                  go_roundw
                  case rel => exact ⟨k + 1, true, by omega, rfl, by go_num, Lib.hid (fun hb => by cases hb), hs⟩
                  case measure => simp [intOf]; omega
              · go_upto_region 39 with (fail)
                go_cut [327] from 999 to 0 (fun v327 wx => v327 = .bool false ∧ St K2 wx (xbC bx d d (.pointer (some ⟨bm, 0, none⟩)) fr (.slice af fr.pg.sl.length cf) key' :: blk bv (.cells #[.int .i64 (d).th, .int .i64 (d).sn, .int .i64 (d).no, .int .i64 (d).ch, .int .i64 (d).re, .int .i64 (d).fa, .int .u64 (d).cl, .slice (some ⟨g2, 0, none⟩) L'.length L'.length] 45) :: []))
                case first =>
                  as_aux_lemma =>
                  have kv := hs.b1.k0
                  have hl1 : (i : Int) < (L'.length : Int) := by have := HlN'.out; omega
                  have hl2 : (i : Int) < (N : Int) := by omega
                  cases b
                  · obtain ⟨h4, hk2⟩ := Hb.out (by simp)
                    have he : getC L' i = getC L i := HC.out i h4 (fun k2 a1 a2 => (hk2 k2 a1 (by omega)).1) (fun hsp k2 a1 a2 => (hk2 k2 a1 (by omega)).2 hsp)
                    have z1 := getC_at (L := L') (n := i) (by rw [← HlN'.out]; exact hlt)
                    have z2 := getC_at (L := L) (n := i) (by rw [← HlN.out]; exact hlt)
                    rw [he] at z1
                    obtain ⟨cc, hcc⟩ : ∃ cc, cc = getC L i := ⟨_, rfl⟩
                    rw [← hcc] at z1 z2
                    obtain ⟨c0, c1, c2⟩ := flat_cell (hs.know g2 _ Hg2.out) z1
                    obtain ⟨d0, d1, d2⟩ := flat_cell (hs.know g _ Hg1.out) z2
                    have hq := neq_cell cc.n cc.m cc.k
                    clear z1 z2 he h4 hk2 hcc
                    refine region_pure (by kernel_rfl) (by as_aux_lemma => kernel_rfl) ?_
                    repeat (go_big_quiet_step (fail))
                    refine wpQuiet_nil ?_
                    intro w2 hb2
                    have hs := hs.same hb2
                    clear c0 c1 c2 d0 d1 d2 hq hb2 kv
                    go_wp2
                    go_meet
                    exact ⟨rfl, hs⟩
                  · refine region_pure (by kernel_rfl) (by as_aux_lemma => kernel_rfl) ?_
                    go_big_quiet_step (fail)
                    repeat (go_big_quiet_step (fail))
                    refine wpQuiet_nil ?_
                    intro w2 hb2
                    have hs := hs.same hb2
                    clear hb2 kv
                    go_wp2
                    go_meet
                    exact ⟨rfl, hs⟩
                case rest =>
                clear hs
                obtain ⟨rfl, hs⟩ := hcut
                apply_assumption
                go_wp2
                go_roundw
                case rel => exact ⟨i + 1, by omega, by go_num, hs⟩
                case measure => simp [intOf]; omega
          · go_wp2
            go_ret
            exact ⟨rfl, hs.below HK2.out⟩
      -- LPF>
      -- RST>
end Go.Proofs.Ytlpdhhhgckpcfaa
