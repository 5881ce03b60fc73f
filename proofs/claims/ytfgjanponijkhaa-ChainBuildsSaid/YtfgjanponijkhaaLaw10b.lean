/- The walk of ChainTruncatesTwice. -/
import Derived.Test.YtfgjanponijkhaaAw10
import Derived.Test.YtfgjanponijkhaaStepsIn
import Derived.Test.YtfgjanponijkhaaChain8
import Derived.Test.YtfgjanponijkhaaChain9
import Derived.Test.YtfgjanponijkhaaLaw10a
namespace Go.Proofs.Ytfgjanponijkhaa
open Go.RowKit
set_option maxRecDepth 100000

def flAt (x y : Int) (i : Nat) : Int := if i = 0 then x else y
/-- The chain after some cuts: cutting at the next floor gives what cutting the whole list there gives. -/
def CurOk (d : Cfg) (n : Nat) (vs : List Ver) (fl : Int) (L : List Cel) (cur : List Ver) : Prop :=
  ChOk d 1 L cur n ∧ cur.length ≤ n ∧ ∀ f, fl ≤ f → vcut f cur = vcut f vs ∧ vdead f cur = vdead f vs
theorem CurOk.next {d : Cfg} (hd : d.Ok) (hch : (1 : Int) ≤ 1 ∧ (1 : Int) ≤ d.ch) {n : Nat} {vs cur : List Ver} {x y : Int} (hxy : x ≤ y) {i : Nat} {L L' : List Cel} (h : CurOk d n vs (flAt x y i) L cur)
    (hc : CutOf d L cur L') (hl : Linked d L' (getC L' (d.chain 1)).n (vcut (flAt x y i) cur)) : CurOk d n vs (flAt x y (i + 1)) L' (vcut (flAt x y i) cur) := by
  refine ⟨h.1.cut hd hc hl (vcut_sub _ _), Nat.le_trans (vcut_sub _ _).length_le h.2.1, fun f hf => ?_⟩
  have hle : flAt x y i ≤ f := by
    unfold flAt at hf ⊢
    rw [if_neg (by omega)] at hf
    split <;> omega
  have := h.2.2 (flAt x y i) (Int.le_refl _)
  rw [this.1]
  exact ⟨vcut_vcut hle vs, vdead_vcut vs⟩

set_option maxHeartbeats 4000000 in
theorem chainTruncatesTwice_walk (a : Option Addr) (len cap : Nat) (f : Nat → StepD) (lo hi : Int) (hlo : 0 ≤ lo ∧ lo < 256) (hhi : 0 ≤ hi ∧ hi < 256) (w : World) (hrow : StepsIn w a len f) :
    Calls Try.prog 8 #[.slice a len cap, .int .u8 lo, .int .u8 hi] w fun e w' => e = .returned (.bool true) ∧ Below w.heap.size w w' := by
  obtain ⟨d, hd, hch, hre, Q1, Q2⟩ : ∃ d : Cfg, Hid d.Ok ∧ d.ch = 100 ∧ d.re = 200 ∧ Hid (∀ w, Calls Try.prog 17 #[.int .i64 1, .int .i64 0] w fun e w' => e = .returned (.agg #[.int .i64 d.th, .int .i64 d.sn, .int .i64 d.no, .int .i64 d.ch, .int .i64 d.re, .int .i64 d.fa, .int .u64 d.cl]) ∧ Below w.heap.size w w') ∧ Hid (∀ w K cs, St K w cs → Calls Try.prog 18 #[.agg #[.int .i64 d.th, .int .i64 d.sn, .int .i64 d.no, .int .i64 d.ch, .int .i64 d.re, .int .i64 d.fa, .int .u64 d.cl]] w fun e w'' => ∃ bm bc, e = .returned (.tuple #[.agg #[.int .i64 d.th, .int .i64 d.sn, .int .i64 d.no, .int .i64 d.ch, .int .i64 d.re, .int .i64 d.fa, .int .u64 d.cl], .pointer (some ⟨bm, 0, none⟩)]) ∧ St K w'' (memC bm bc (startL d) 0 :: cs)) :=
    ⟨kitC 1 4 1000, Lib.hid kit10_ok, rfl, rfl, Lib.hid (fun w => kitConfig_any 1 0 w), Lib.hid (fun w K cs hs => kitMemory_st kit10_ok hs)⟩
  have C0 : Hid (Built d 0 (startL d) []) := Lib.hid ⟨rfl, kit10_chain d hd.out⟩
  generalize startL d = L0 at *
  have hch1 : Hid ((1 : Int) ≤ 1 ∧ (1 : Int) ≤ d.ch) := Lib.hid (by omega)
  have hre' : Hid (d.re = 200) := Lib.hid hre
  clear hch hre
  have hlen := hrow.1
  unfold maxLen at hlen
  have Hrow := Lib.hid hrow
  clear hrow
  have hs := St.start w
  obtain ⟨iv, hiv0, hiv1, hiv2, hiv3⟩ := info_parts infoVer
  go_enter Try.func8, Try.ntmps8
  go_wp2_with fail
  refine (calls_same hs (Q1.out _)).mono ?_
  clear hs
  rintro e w1 ⟨rfl, hs⟩
  go_wp2_with fail
  refine (Q2.out _ _ _ hs).mono ?_
  clear hs
  rintro e w2 ⟨bm, bc, rfl, hs⟩
  have hs := hs.made (.cells #[.int .i64 d.th, .int .i64 d.sn, .int .i64 d.no, .int .i64 d.ch, .int .i64 d.re, .int .i64 d.fa, .int .u64 d.cl] 30)
  obtain ⟨bl, hbl⟩ : ∃ bl, bl = w2.heap.size := ⟨_, rfl⟩
  go_wp2_with fail
  rw [← hbl] at hs ⊢
  clear hbl
  refine (awake10_st hs).mono ?_
  clear hs
  rintro e w3 ⟨rfl, hs⟩
  by_cases h10 : 12 < len
  · go_wp2_with fail
    refine (awake10_st hs).mono ?_
    clear hs
    rintro e w4 ⟨rfl, hs⟩
    go_wp2
    go_ret
    exact ⟨rfl, hs.below (Know.Le.refl _)⟩
  · have h10' : len ≤ 12 := by omega
    clear h10
    go_wp2
    go_loopw [9, 10] (fun vl vk wr => ∃ (n acc : Nat) (L : List Cel) (vs : List Ver), n ≤ len ∧ vk = .int .i64 n ∧ acc ≤ 5 * n ∧ Built d n L vs ∧ St (Know.of w) wr [memC bm bc L acc, rowC vl 69 3 n (verRow vs), blk bl (.cells #[.int .i64 d.th, .int .i64 d.sn, .int .i64 d.no, .int .i64 d.ch, .int .i64 d.re, .int .i64 d.fa, .int .u64 d.cl] 30)]) (fun _ vk _ => len - (intOf vk).toNat)
    case atStart => exact ⟨0, 0, L0, [], by omega, rfl, by omega, C0.out, hs.row_nil.b2⟩
    case round =>
      clear hs
      obtain ⟨n, acc, L, vs, hn, rfl, hacc, hB, hs⟩ := hrel
      obtain ⟨al, capl, rfl, hcl, _⟩ := hs.b1.row_read
      have HB := Lib.hid hB
      clear hB
      by_cases hlt : n < len
      · obtain ⟨b, off, rfl, _, c0, c1, c2, c3, hsz, _, _⟩ := (Hrow.out.keep (hs.below (Know.Le.refl _))).2 n hlt
        obtain ⟨k', hk'⟩ : ∃ k', k' = wrV (f n).v (f n).del := ⟨_, rfl⟩
        have hdel : (f n).del = true → k' = ⟨#[]⟩ := fun h => by rw [hk']; exact wrV_del h
        have qw := fun w => write_below (kd := (f n).kind) (fl := (f n).fl) (del := (f n).del) hsz w
        rw [← hk'] at qw
        obtain ⟨dl, hdl⟩ : ∃ dl, dl = (f n).del := ⟨_, rfl⟩
        have Qw := Lib.hid qw
        have hr2 : ((n : Int) + 1) ≤ d.re := by have := hre'.out; omega
        obtain ⟨L1, L2, L3, _, _, _, e4, _, _, c3', _⟩ := in_steps hd.out hch1.out HB.out.2 (r := (n : Int) + 1) (by omega) (by omega) hr2 hdel
        have c4 := c3'.stamp hd.out hch1.out (t := (n : Int) + 1) ⟨by omega, by omega⟩
        have E4 := Lib.hid e4
        have C4 := Lib.hid c4
        clear hsz qw hk' hdel e4 c3' c4 hr2
        go_wp2_with fail
        refine (Qw.out _).mono ?_
        rintro e w5 ⟨rfl, hb5⟩
        have hs := (hs.same hb5).made (.cells #[.string ⟨#[]⟩, .string k', .bool (f n).del] 52)
        clear c0 c1 c2 c3 hb5
        obtain ⟨bw, hbw⟩ : ∃ bw, bw = w5.heap.size := ⟨_, rfl⟩
        have kl := hs.tail.k2
        have kw := hs.k0
        go_wp2_with fail
        rw [← hbw] at hs ⊢
        clear hbw kl kw
        refine (install_st (r := (n : Int) + 1) hd.out (by omega) (by omega) hs.b1).mono ?_
        clear hs
        rintro e w6 ⟨acc', rfl, hacc', hs⟩
        rw [E4.out] at hs
        have kl := hs.tail.k2
        go_wp2_with fail
        refine (newStamp_st (r := (n : Int) + 1) (t := (n : Int) + 1) hd.out (by omega) hs).mono ?_
        clear hs kl
        rintro e w7 ⟨b1, bi, bn, rfl, hs⟩
        go_wp2_with fail
        refine (stampStep_st (by omega) hs).mono ?_
        clear hs
        rintro e w8 ⟨rfl, hs⟩
        have kw := hs.k1
        have hv := hs.b2.row_vers (by rw [HB.out.1]; omega)
        have hs := (hs.made (.cells [.int .u64 ((n : Int) + 1), .string k', .bool (f n).del].toArray 69)).row_lit (n := 1) (size := 3) rfl (by decide)
        have Hv := Lib.hid (hv.same ((Below.refl w8.heap.size w8).alloc (Nat.le_refl _) (.cells [.int .u64 ((n : Int) + 1), .string k', .bool (f n).del].toArray 69)))
        have Hl := Lib.hid (show (verRow vs).length = n * 3 by rw [verRow_length, HB.out.1])
        have H0 : Hid (al = none → n = 0) := Lib.hid (fun e => by subst e; rw [← HB.out.1, Hv.out.none]; rfl)
        have Hs := Lib.hid hs
        clear hv hs hdl
        go_wp2_with (at_builtin; refine append_row_st _ _ 58 69 _ 1 n _ 3 32 _ (verRow vs) (.agg #[.int .u64 0, .string ⟨#[]⟩, .bool false]) iv al Hs.out rfl rfl Try.underlying58 hiv0 hiv1 hiv2 hiv3 rfl (by decide) rfl rfl Hl.out H0.out Hv.out.newsAll (verRow_one vs) (by omega) (by decide) ?_)
        clear Hs kw
        intro v' w' hs
        rw [Nat.add_comm 1 n] at hs
        go_wp2
        go_roundw
        case rel => exact ⟨n + 1, acc' + 1, _, ⟨(n : Int) + 1, (n : Int) + 1, k', (f n).del⟩ :: vs, by omega, by go_num, by omega, ⟨by simp [HB.out.1], by exact_mod_cast C4.out⟩, hs.b2.tail.b2.tail.b1⟩
        case measure => simp [intOf]; omega
      · obtain rfl : n = len := by omega
        have HL := Lib.hid HB.out.2
        have Hlen := Lib.hid HB.out.1
        clear hlt hn HB
        go_upto_region 15 with (fail)
        go_cut [84] (fun v wx => v = .bool (decide (lo % 14 > hi % 14)) ∧ St (Know.of w) wx [memC bm bc L acc, rowC (.slice al n capl) 69 3 n (verRow vs), blk bl (.cells #[.int .i64 d.th, .int .i64 d.sn, .int .i64 d.no, .int .i64 d.ch, .int .i64 d.re, .int .i64 d.fa, .int .u64 d.cl] 30)])
        case first =>
          go_wp2
          go_meet
          exact ⟨rfl, hs⟩
        case rest =>
        clear hs
        obtain ⟨rfl, hs⟩ := hcut
        apply_assumption
        go_cut [14, 15] (fun va vb wx => ∃ (x y : Int) (ba : Nat), 0 ≤ x ∧ x ≤ y ∧ y < 14 ∧ va = .int .u64 x ∧ vb = .int .u64 y ∧ ba = wx.heap.size ∧ St (Know.of w) wx [memC bm bc L acc, rowC (.slice al n capl) 69 3 n (verRow vs), blk bl (.cells #[.int .i64 d.th, .int .i64 d.sn, .int .i64 d.no, .int .i64 d.ch, .int .i64 d.re, .int .i64 d.fa, .int .u64 d.cl] 30)])
        case first =>
          by_cases h : lo % 14 > hi % 14
          · rw [decide_eq_true h]
            go_wp2
            go_meet
            exact ⟨_, _, _, by omega, by omega, by omega, rfl, rfl, rfl, hs⟩
          · rw [decide_eq_false h]
            go_wp2
            go_meet
            exact ⟨_, _, _, by omega, by omega, by omega, rfl, rfl, rfl, hs⟩
        case rest =>
          clear hs
          obtain ⟨x, y, ba, hx0, hxy, hy, rfl, rfl, hba, hs⟩ := hcut
          have hs := hs.made (.cells #[.int .u64 x, .int .u64 y, .int .u64 y] 23)
          go_wp2
          rw [← hba] at hs ⊢
          clear hba
          go_loopw [92] (fun vi wr => ∃ (i acc1 : Nat) (L1 : List Cel) (cur : List Ver), i ≤ 3 ∧ vi = .int .i64 i ∧ acc1 ≤ 100 + 200 * i ∧ CurOk d n vs (flAt x y i) L1 cur ∧ St (Know.of w) wr [memC bm bc L1 acc1, rowC (.slice al n capl) 69 3 n (verRow vs), blk ba (.cells #[.int .u64 x, .int .u64 y, .int .u64 y] 23), blk bl (.cells #[.int .i64 d.th, .int .i64 d.sn, .int .i64 d.no, .int .i64 d.ch, .int .i64 d.re, .int .i64 d.fa, .int .u64 d.cl] 30)]) (fun vi _ => 3 - (intOf vi).toNat)
          case atStart => exact ⟨0, acc, L, vs, by omega, rfl, by omega, ⟨HL.out, by rw [Hlen.out]; omega, fun _ _ => ⟨rfl, rfl⟩⟩, hs.b1.b2.b1⟩
          case round =>
            clear hs
            obtain ⟨i, acc1, L1, cur, hi3, rfl, hacc1, hC, hs⟩ := hrel
            have HC := Lib.hid hC
            clear hC
            by_cases h3 : i < 3
            · obtain ⟨fl, hfl⟩ : ∃ fl, fl = flAt x y i := ⟨_, rfl⟩
              have hf0 : 0 ≤ fl ∧ fl < 14 := by rw [hfl]; unfold flAt; split <;> omega
              have ka : ∀ wz, St (Know.of w) wz [memC bm bc L1 acc1, rowC (.slice al n capl) 69 3 n (verRow vs), blk ba (.cells #[.int .u64 x, .int .u64 y, .int .u64 y] 23), blk bl (.cells #[.int .i64 d.th, .int .i64 d.sn, .int .i64 d.no, .int .i64 d.ch, .int .i64 d.re, .int .i64 d.fa, .int .u64 d.cl] 30)] → wz.cell? ⟨ba, i, none⟩ = some (.int .u64 fl) := by
                intro wz hz
                rw [hz.k2 i, hfl]
                match i, h3 with
                | 0, _ => rfl
                | 1, _ => rfl
                | 2, _ => rfl
              have kz := ka _ hs
              obtain ⟨s', L', e, h6, hok, hlink, hcut⟩ := tr_final hd.out (tm := fl) hch1.out HC.out.1.len HC.out.1.link HC.out.1.nd (N := 100) (by have := HC.out.2.1; omega)
              have hnext := HC.out.next hd.out hch1.out hxy hcut (by rw [← hfl]; exact hlink)
              rw [← hfl] at hnext
              obtain ⟨o, ho⟩ : ∃ o, o = vdead fl vs := ⟨_, rfl⟩
              have hvd := (HC.out.2.2 fl (by rw [hfl]; exact Int.le_refl _))
              rw [hvd.2, ← ho] at hok
              rw [hvd.1] at hnext
              have HN := Lib.hid hnext
              have Hok := Lib.hid hok
              have Ho := Lib.hid ho
              have E := Lib.hid e
              have H6 := Lib.hid h6
              have kl := hs.tail.k2
              have h3' : (i : Int) < 3 := by omega
              clear hnext hok ho e h6 hlink hcut hvd ka hfl
              go_wp2_with fail
              refine (newTruncate_st (d := d) (ch := 1) (tm := fl) hs).mono ?_
              clear hs kl kz
              rintro e w9 ⟨b, rfl, hs⟩
              go_upto_region 21 with (fail)
              go_cut [19] (fun v wx => v = .int .i64 0 ∧ St (Know.of w) wx [trC b d 1 fl lk0, memC bm bc L1 acc1, rowC (.slice al n capl) 69 3 n (verRow vs), blk ba (.cells #[.int .u64 x, .int .u64 y, .int .u64 y] 23), blk bl (.cells #[.int .i64 d.th, .int .i64 d.sn, .int .i64 d.no, .int .i64 d.ch, .int .i64 d.re, .int .i64 d.fa, .int .u64 d.cl] 30)])
              case first =>
                go_wp2
                go_meet
                exact ⟨rfl, hs⟩
              case rest =>
              clear hs
              obtain ⟨rfl, hs⟩ := hcut
              apply_assumption
              go_cut [19] (fun _ wx => ∃ acc2, acc2 ≤ acc1 + 100 ∧ St (Know.of w) wx [trC b d 1 fl s', memC bm bc L' acc2, rowC (.slice al n capl) 69 3 n (verRow vs), blk ba (.cells #[.int .u64 x, .int .u64 y, .int .u64 y] 23), blk bl (.cells #[.int .i64 d.th, .int .i64 d.sn, .int .i64 d.no, .int .i64 d.ch, .int .i64 d.re, .int .i64 d.fa, .int .u64 d.cl] 30)])
              case first =>
                clear h3 hf0 h3' hlo hhi hlen h10' hx0 hxy hy hcl hacc
                go_wp2
                go_loopw [19] (fun vj wr => ∃ (j acc2 : Nat), j ≤ 100 ∧ vj = .int .i64 j ∧ acc2 ≤ acc1 + j ∧ St (Know.of w) wr [trC b d 1 fl (it (trStep d 1 fl) j (lk0, L1)).1, memC bm bc (it (trStep d 1 fl) j (lk0, L1)).2 acc2, rowC (.slice al n capl) 69 3 n (verRow vs), blk ba (.cells #[.int .u64 x, .int .u64 y, .int .u64 y] 23), blk bl (.cells #[.int .i64 d.th, .int .i64 d.sn, .int .i64 d.no, .int .i64 d.ch, .int .i64 d.re, .int .i64 d.fa, .int .u64 d.cl] 30)]) (fun vj _ => 100 - (intOf vj).toNat)
                case atStart => exact ⟨0, acc1, by omega, rfl, by omega, hs⟩
                case round =>
                  clear hs
                  obtain ⟨j, acc2, hj, rfl, hacc2, hs⟩ := hrel
                  have hok := tr_ok (d := d) (ch := 1) (tm := fl) HC.out.1.ok j
                  by_cases hlt : j < 100
                  · have q := trStep_st hd.out (by omega) hok.1 (by omega) hs
                    rw [show (trStep d 1 fl ((it (trStep d 1 fl) j (lk0, L1)).1, (it (trStep d 1 fl) j (lk0, L1)).2)) = it (trStep d 1 fl) (j + 1) (lk0, L1) from (it_succ (trStep d 1 fl) j (lk0, L1)).symm] at q
                    have hal := accTo_le 6 (it (trStep d 1 fl) j (lk0, L1)).1.pc acc2
                    generalize accTo 6 (it (trStep d 1 fl) j (lk0, L1)).1.pc acc2 = acc3 at *
                    have hj9 : (j : Int) < 100 := by omega
                    have hj8 : acc3 ≤ acc1 + (j + 1) := by omega
                    have Hj := Lib.hid (And.intro hlt hj8)
                    clear hs hok hal hj8 hacc2 hj hi3 hacc1 hlt
                    cases ho : decide (6 ≤ (it (trStep d 1 fl) (j + 1) (lk0, L1)).1.pc) with
                    | true =>
                      rw [ho] at q
                      have e5 := (tr_end (of_decide_eq_true ho) (show j + 1 ≤ 100 by have := Hj.out.1; omega)).symm
                      rw [E.out] at e5
                      rw [e5] at q
                      have Q := Lib.hid q
                      clear q ho e5
                      go_wp2_with fail
                      refine (Q.out).mono ?_
                      rintro e w10 ⟨rfl, hs⟩
                      clear Q
                      go_wp2
                      go_meet
                      exact ⟨acc3, by have := Hj.out; omega, hs⟩
                    | false =>
                      rw [ho] at q
                      have Q := Lib.hid q
                      clear q ho
                      go_wp2_with fail
                      refine (Q.out).mono ?_
                      rintro e w10 ⟨rfl, hs⟩
                      clear Q
                      go_wp2
                      go_roundw
                      case rel => exact ⟨j + 1, acc3, by have := Hj.out; omega, by go_num, by have := Hj.out; omega, hs⟩
                      case measure => have := Hj.out; simp [intOf]; omega
                  · obtain rfl : j = 100 := by omega
                    rw [E.out] at hs
                    clear hok
                    go_wp2
                    go_meet
                    exact ⟨acc2, by omega, hs⟩
              case rest =>
                clear hs
                obtain ⟨acc2, hacc2, hs⟩ := hcut
                have kl := hs.tail.tail.k2
                go_wp2_with fail
                refine (peekChain_st (ch := 1) hd.out hch1.out HN.out.1.ok HN.out.1.link (by have := HN.out.2.1; have := hre'.out; omega) hs.b1).mono ?_
                clear hs kl
                rintro e w11 ⟨va, rfl, hs⟩
                obtain ⟨av, capv, rfl, hcv, _⟩ := hs.row_read
                have qc := cutRef_st (cap := capl) fl (by rw [Hlen.out]; exact hcl) hs (hs.b3.row_vers (by rw [Hlen.out]; omega))
                rw [Hlen.out] at qc
                have Qc := Lib.hid qc
                clear qc
                go_wp2_with fail
                refine (Qc.out).mono ?_
                clear hs Qc
                rintro e w12 ⟨va2, rfl, hs⟩
                obtain ⟨av2, capv2, rfl, hcv2, _⟩ := hs.row_read
                have hle2 : (vcut fl vs).length ≤ 1000000000 := by have := HN.out.2.1; omega
                have qs := same_vers (cap := capv) (cap' := capv2) w12 (hs.b1.row_vers hle2) (hs.row_vers hle2)
                have Qs := Lib.hid qs
                clear qs
                go_wp2_with fail
                refine (calls_same hs Qs.out).mono ?_
                clear hs Qs
                rintro e w13 ⟨rfl, hs⟩
                have hs := hs.tail.tail.b1
                have qd := trDead_st hs
                rw [Hok.out] at qd
                have Qd := Lib.hid qd
                clear qd
                go_wp2_with fail
                refine (Qd.out).mono ?_
                clear hs Qd
                rintro e w14 ⟨rfl, hs⟩
                have qr := deadRef_any (cap := capl) fl (hs.b2.row_vers (by rw [Hlen.out]; omega))
                rw [Hlen.out, ← Ho.out] at qr
                have Qr := Lib.hid qr
                clear qr
                go_wp2_with fail
                refine (Qr.out).mono ?_
                clear Qr
                rintro e w15 ⟨rfl, rfl⟩
                have g : (o != o) = false := by simp
                go_wp2
                go_roundw
                case rel => exact ⟨i + 1, acc2, L', vcut fl vs, by omega, by go_num, by omega, HN.out, hs.tail⟩
                case measure => simp [intOf]; omega
            · obtain rfl : i = 3 := by omega
              go_wp2
              go_ret
              exact ⟨rfl, hs.below (Know.Le.refl _)⟩
end Go.Proofs.Ytfgjanponijkhaa
