/- The walk of ChainBuilds. -/
import Derived.Test.YtfgjanponijkhaaBuilds
namespace Go.Proofs.Ytfgjanponijkhaa
open Go.RowKit
set_option maxRecDepth 100000

/-- Behind one step of the list. -/
def Aft (K : Know) (d : Cfg) (bm bc bl k acc : Nat) (v7 v8 v9 v10 v14 : Value) (wx : World) : Prop :=
  ∃ (nx acc2 n : Nat) (now : Int) (L : List Cel) (vs : List Ver) (rs : List Int), v9 = .int .u64 now ∧ v10 = .int .u64 nx ∧ v14 = .int .u64 n ∧ n < 200 ∧ acc2 ≤ acc + n ∧ B4 d (k + 1) nx now L vs rs ∧
    St K wx [memC bm bc L acc2, rowC v7 69 3 (vs).length (verRow vs), rowC v8 23 1 (rs).length ((rs).map (Value.int .u64)), blk bl (.cells #[.int .i64 d.th, .int .i64 d.sn, .int .i64 d.no, .int .i64 d.ch, .int .i64 d.re, .int .i64 d.fa, .int .u64 d.cl] 30)]

set_option maxHeartbeats 8000000 in
theorem chainBuilds_walk (a : Option Addr) (len cap : Nat) (f : Nat → StepD) (tm : Int) (ht : 0 ≤ tm ∧ tm < 18446744073709551616) (w : World) (hrow : StepsIn w a len f) :
    Calls Try.prog 9 #[.slice a len cap, .int .u64 tm] w fun e w' => e = .returned (.bool true) ∧ Below w.heap.size w w' := by
  obtain ⟨d, hd, hch, hre, Q1, Q2⟩ : ∃ d : Cfg, Hid d.Ok ∧ d.ch = 100 ∧ d.re = 200 ∧ Hid (∀ w, Calls Try.prog 17 #[.int .i64 1, .int .i64 0] w fun e w' => e = .returned (.agg #[.int .i64 d.th, .int .i64 d.sn, .int .i64 d.no, .int .i64 d.ch, .int .i64 d.re, .int .i64 d.fa, .int .u64 d.cl]) ∧ Below w.heap.size w w') ∧ Hid (∀ w K cs, St K w cs → Calls Try.prog 18 #[.agg #[.int .i64 d.th, .int .i64 d.sn, .int .i64 d.no, .int .i64 d.ch, .int .i64 d.re, .int .i64 d.fa, .int .u64 d.cl]] w fun e w'' => ∃ bm bc, e = .returned (.tuple #[.agg #[.int .i64 d.th, .int .i64 d.sn, .int .i64 d.no, .int .i64 d.ch, .int .i64 d.re, .int .i64 d.fa, .int .u64 d.cl], .pointer (some ⟨bm, 0, none⟩)]) ∧ St K w'' (memC bm bc (startL d) 0 :: cs)) :=
    ⟨kitC 1 4 1000, Lib.hid kit10_ok, rfl, rfl, Lib.hid (fun w => kitConfig_any 1 0 w), Lib.hid (fun w K cs hs => kitMemory_st kit10_ok hs)⟩
  have C0 : Hid (B4 d 0 0 0 (startL d) [] []) := by
    refine Lib.hid ⟨by omega, by omega, by omega, kit10_chain d hd.out, ?_, by simp, by simp, fun v us e => by cases e⟩
    obtain ⟨p1, p2, p3⟩ := start_cells d hd.out
    have h1 := hd.out.A_bd; have h2 := hd.out.B_bd
    have hn : d.node 1 2 < d.B := by
      have f1 := hd.out.fa1; have n1 := hd.out.no1
      have e : d.node 1 2 = d.A + 2 := by unfold Cfg.node; rw [if_pos (by omega)]; omega
      have : 1 * (d.fa + 4) ≤ d.no * (d.fa + 4) := Int.mul_le_mul_of_nonneg_right n1 (by omega)
      have e2 : d.B = d.A + d.no * (d.fa + 4) := rfl
      omega
    have hc := chain_in hd.out (c := 2) (by omega) (by omega)
    rw [p3 _ (by omega), if_neg (by omega), if_neg (by omega), if_neg (by omega)]
    rfl
  generalize startL d = L0 at *
  have hch' : Hid (100 ≤ d.ch) := Lib.hid (by omega)
  have hre' : Hid (100 ≤ d.re) := Lib.hid (by omega)
  clear hch hre
  have hlen := hrow.1
  unfold maxLen at hlen
  have Hrow := Lib.hid hrow
  clear hrow
  have hs := St.start w
  obtain ⟨iv, hiv0, hiv1, hiv2, hiv3⟩ := info_parts infoVer
  obtain ⟨iu, hiu0, hiu1, hiu2, hiu3⟩ := info_parts infoU64
  go_enter Try.func9, Try.ntmps9
  go_wp2_with fail
  refine (calls_same hs (Q1.out _)).mono ?_
  clear hs
  rintro e w1 ⟨rfl, hs⟩
  go_wp2_with fail
  refine (Q2.out _ _ _ hs).mono ?_
  clear hs
  rintro e w2 ⟨bm, bc, rfl, hs⟩
  have hs := hs.made (.cells #[.int .i64 d.th, .int .i64 d.sn, .int .i64 d.no, .int .i64 d.ch, .int .i64 d.re, .int .i64 d.fa, .int .u64 d.cl] 30)
  obtain ⟨bl, hbl⟩ : ∃ bl, bl = w2.heap.size := ⟨_, rfl⟩
  go_wp2_with fail
  rw [← hbl] at hs ⊢
  clear hbl
  refine (awake10_st hs).mono ?_
  clear hs
  rintro e w3 ⟨rfl, hs⟩
  by_cases h10 : 20 < len
  · go_wp2_with fail
    refine (awake10_st hs).mono ?_
    clear hs
    rintro e w4 ⟨rfl, hs⟩
    go_wp2
    go_ret
    exact ⟨rfl, hs.below (Know.Le.refl _)⟩
  · have h10' : len ≤ 20 := by omega
    clear h10 hlen
    go_wp2
    go_loopw [7, 8, 9, 10, 11] (fun vl vr vnow vnx vk wr => ∃ (k nx acc : Nat) (now : Int) (L : List Cel) (vs : List Ver) (rs : List Int), k ≤ len ∧ vnow = .int .u64 now ∧ vnx = .int .u64 nx ∧ vk = .int .i64 k ∧ acc ≤ 4000 * k ∧ B4 d k nx now L vs rs ∧
      St (Know.of w) wr [memC bm bc L acc, rowC vl 69 3 (vs).length (verRow vs), rowC vr 23 1 (rs).length ((rs).map (Value.int .u64)), blk bl (.cells #[.int .i64 d.th, .int .i64 d.sn, .int .i64 d.no, .int .i64 d.ch, .int .i64 d.re, .int .i64 d.fa, .int .u64 d.cl] 30)]) (fun _ _ _ _ vk _ => len - (intOf vk).toNat)
    case atStart => exact ⟨0, 0, 0, 0, L0, [], [], by omega, rfl, rfl, rfl, by omega, C0.out, hs.row_nil.row_nil.b3⟩
    case round =>
      clear hs C0
      obtain ⟨k, nx, acc, now, L, vs, rs, hk, rfl, rfl, rfl, hacc, hB, hs⟩ := hrel
      obtain ⟨al, capl, rfl, hcl, _⟩ := hs.b1.row_read
      obtain ⟨ar, capr, rfl, hcr, _⟩ := hs.b2.row_read
      have HB := Lib.hid hB
      have Hcl := Lib.hid hcl
      clear hB hcl hcr
      by_cases hlt : k < len
      · have hk20 : k < 20 := by omega
        obtain ⟨b, off, rfl, hbn0, c0, c1, c2, c3, hsz, _, wf⟩ := (Hrow.out.keep (hs.below (Know.Le.refl _))).2 k hlt
        have hfl := wf_u8 wf
        clear wf
        have hbn : b ≠ wr.heap.size := Nat.ne_of_lt hbn0
        have hk2 : ∀ (o : Obj) (k : Nat), (wr.alloc o).cell? ⟨b, k, none⟩ = wr.cell? ⟨b, k, none⟩ := fun o k => by rw [World.cell?_of_block (w := wr) (a := ⟨b, k, none⟩)]; exact Below.heap_alloc wr o b hbn0
        go_upto_region 10 with (fail)
        go_cut [12, 13, 14] (fun v1 v2 v3 wx => ∃ bs, v1 = .pointer (some ⟨bs, 0, none⟩) ∧ v2 = .int .u64 acc ∧ v3 = .int .u64 0 ∧ St (Know.of w) wx [blk bs (.cells #[.int .i64 ((f k)).kind, .string ((f k)).v, .bool ((f k)).del, .int .u8 ((f k)).fl] 54), memC bm bc L acc, rowC (.slice al vs.length capl) 69 3 (vs).length (verRow vs), rowC (.slice ar rs.length capr) 23 1 (rs).length ((rs).map (Value.int .u64)), blk bl (.cells #[.int .i64 d.th, .int .i64 d.sn, .int .i64 d.no, .int .i64 d.ch, .int .i64 d.re, .int .i64 d.fa, .int .u64 d.cl] 30)])
        case first =>
          as_aux_lemma =>
          -- <R10
          clear hfl hk hacc hk20 h10' ht
          go_region_with ((go_at_call 28; (first | refine (accesses_st hs.mem).mono ?_ | refine (accesses_st (hs.made _).mem1).mono ?_ | refine (accesses_st hs.drew.mem).mono ?_ | refine (accesses_st (hs.made _).drew.mem1).mono ?_ | refine (accesses_st (hs.drew.made _).mem1).mono ?_); rintro e w1 ⟨rfl, rfl⟩))
          all_goals
            go_wp2
            go_meet
            first | exact ⟨_, rfl, rfl, rfl, hs.made _⟩ | exact ⟨_, rfl, rfl, rfl, (hs.made _).drew⟩ | exact ⟨_, rfl, rfl, rfl, hs.drew.made _⟩
          -- R10>
        case rest =>
          clear hs c0 c1 c2 c3 hk2 hbn hbn0
          obtain ⟨bs, rfl, rfl, rfl, hs⟩ := hcut
          have Qm := Lib.hid (fun w => mod_any (f k).kind 6 (by omega) (by omega) w)
          have ks := hs.k0
          go_upto_region 11 with (fail)
          go_cut [65] (fun v wx => v = .bool ((f k).kind % 6 == 5) ∧ St (Know.of w) wx [blk bs (.cells #[.int .i64 ((f k)).kind, .string ((f k)).v, .bool ((f k)).del, .int .u8 ((f k)).fl] 54), memC bm bc L acc, rowC (.slice al vs.length capl) 69 3 (vs).length (verRow vs), rowC (.slice ar rs.length capr) 23 1 (rs).length ((rs).map (Value.int .u64)), blk bl (.cells #[.int .i64 d.th, .int .i64 d.sn, .int .i64 d.no, .int .i64 d.ch, .int .i64 d.re, .int .i64 d.fa, .int .u64 d.cl] 30)])
          case first =>
            as_aux_lemma =>
            go_wp2_with fail
            refine (Qm.out _).mono ?_
            rintro e w4 ⟨rfl, rfl⟩
            go_wp2
            go_meet
            exact ⟨rfl, hs⟩
          case rest =>
          clear hs ks
          obtain ⟨rfl, hs⟩ := hcut
          apply_assumption
          go_cut [7, 8, 9, 10, 14] (fun v7 v8 v9 v10 v14 wx => Aft (Know.of w) d bm bc bl k acc v7 v8 v9 v10 v14 wx)
          case first =>
            as_aux_lemma =>
            by_cases h5 : (f k).kind % 6 = 5
            · have g5 : ((f k).kind % 6 == 5) = true := by simpa using h5
              have ks := hs.k0
              clear h5 Qm
              rw [g5]
              -- <CUT
              go_upto_region 12 with (fail)
              go_cut [15] (fun v wx => ∃ fl : Int, 0 ≤ fl ∧ fl < 18446744073709551616 ∧ v = .int .u64 fl ∧ St (Know.of w) wx [memC bm bc L acc, rowC (.slice al vs.length capl) 69 3 (vs).length (verRow vs), rowC (.slice ar rs.length capr) 23 1 (rs).length ((rs).map (Value.int .u64)), blk bl (.cells #[.int .i64 d.th, .int .i64 d.sn, .int .i64 d.no, .int .i64 d.ch, .int .i64 d.re, .int .i64 d.fa, .int .u64 d.cl] 30)])
              case first =>
                as_aux_lemma =>
                have hn0 := HB.out.now0
                have hn1 := HB.out.now_le
                by_cases hf : now ≤ (f k).fl % 8
                · go_wp2
                  go_meet
                  exact ⟨_, by omega, by omega, rfl, hs.tail⟩
                · go_wp2
                  go_meet
                  exact ⟨_, by omega, by omega, rfl, hs.tail⟩
              case rest =>
              clear hs ks hfl
              obtain ⟨fl, hf0, hf1, rfl, hs⟩ := hcut
              obtain ⟨s', L', e, h6, hok, hlink, hcut⟩ := tr_final hd.out (ch := 1) (tm := fl) ⟨by omega, by have := hch'.out; omega⟩ HB.out.c.len HB.out.c.link HB.out.c.nd (N := 100) (by have := HB.out.len; have := HB.out.nx_le; omega)
              have HN := Lib.hid (HB.out.cut hd.out hch'.out hcut hlink)
              obtain ⟨o, ho⟩ : ∃ o, o = vdead fl vs := ⟨_, rfl⟩
              rw [← ho] at hok
              have Hok := Lib.hid hok
              have Ho := Lib.hid ho
              have E := Lib.hid e
              have H6 := Lib.hid h6
              have kl := hs.tail.k2
              clear hok ho e h6 hlink hcut
              go_wp2_with fail
              refine (newTruncate_st (d := d) (ch := 1) (tm := fl) hs).mono ?_
              clear hs kl
              rintro e w9 ⟨bt, rfl, hs⟩
              go_upto_region 14 with (fail)
              go_cut [14] (fun v wx => v = .int .u64 1 ∧ St (Know.of w) wx [trC bt d 1 fl lk0, memC bm bc L acc, rowC (.slice al vs.length capl) 69 3 (vs).length (verRow vs), rowC (.slice ar rs.length capr) 23 1 (rs).length ((rs).map (Value.int .u64)), blk bl (.cells #[.int .i64 d.th, .int .i64 d.sn, .int .i64 d.no, .int .i64 d.ch, .int .i64 d.re, .int .i64 d.fa, .int .u64 d.cl] 30)])
              case first =>
                as_aux_lemma =>
                go_wp2
                go_meet
                exact ⟨rfl, hs⟩
              case rest =>
              clear hs
              obtain ⟨rfl, hs⟩ := hcut
              apply_assumption
              go_cut [14] (fun v wx => ∃ n acc2 : Nat, v = .int .u64 n ∧ n < 200 ∧ acc2 ≤ acc + n ∧ St (Know.of w) wx [trC bt d 1 fl s', memC bm bc L' acc2, rowC (.slice al vs.length capl) 69 3 (vs).length (verRow vs), rowC (.slice ar rs.length capr) 23 1 (rs).length ((rs).map (Value.int .u64)), blk bl (.cells #[.int .i64 d.th, .int .i64 d.sn, .int .i64 d.no, .int .i64 d.ch, .int .i64 d.re, .int .i64 d.fa, .int .u64 d.cl] 30)])
              case first =>
                as_aux_lemma =>
                clear hk20 h10' hk hf0 hf1 ht
                go_wp2
                go_loopw [14] (fun vj wr => ∃ (j acc2 : Nat), vj = .int .u64 ((j : Int) + 1) ∧ (it (trStep d 1 fl) j (lk0, L)).1.pc < 6 ∧ acc2 ≤ acc + j ∧ St (Know.of w) wr [trC bt d 1 fl (it (trStep d 1 fl) j (lk0, L)).1, memC bm bc (it (trStep d 1 fl) j (lk0, L)).2 acc2, rowC (.slice al vs.length capl) 69 3 (vs).length (verRow vs), rowC (.slice ar rs.length capr) 23 1 (rs).length ((rs).map (Value.int .u64)), blk bl (.cells #[.int .i64 d.th, .int .i64 d.sn, .int .i64 d.no, .int .i64 d.ch, .int .i64 d.re, .int .i64 d.fa, .int .u64 d.cl] 30)]) (fun vj _ => 200 - (intOf vj).toNat)
                case atStart => exact ⟨0, acc, rfl, by show 0 < 6; omega, by omega, hs⟩
                case round =>
                  clear hs
                  obtain ⟨j, acc2, rfl, hpc, hacc2, hs⟩ := hrel
                  have hok := tr_ok (d := d) (ch := 1) (tm := fl) HB.out.c.ok j
                  have hj : j < 100 := by
                    rcases Nat.lt_or_ge j 100 with h | h
                    · exact h
                    · have e1 := tr_end (L := L) (d := d) (ch := 1) (tm := fl) (n := 100) (m := j) (by rw [E.out, H6.out]; omega) h
                      rw [e1, E.out, H6.out] at hpc
                      omega
                  have q := trStep_st hd.out (by omega) hok.1 (by omega) hs
                  rw [show (trStep d 1 fl ((it (trStep d 1 fl) j (lk0, L)).1, (it (trStep d 1 fl) j (lk0, L)).2)) = it (trStep d 1 fl) (j + 1) (lk0, L) from (it_succ (trStep d 1 fl) j (lk0, L)).symm] at q
                  have hal := accTo_le 6 (it (trStep d 1 fl) j (lk0, L)).1.pc acc2
                  generalize accTo 6 (it (trStep d 1 fl) j (lk0, L)).1.pc acc2 = acc3 at *
                  have hj9 : (j : Int) + 1 < 200 := by omega
                  have hj8 : acc3 ≤ acc + (j + 1) := by omega
                  have Hj := Lib.hid (And.intro hj hj8)
                  clear hs hok hal hj8 hacc2 hj hpc hacc
                  cases ho : decide (6 ≤ (it (trStep d 1 fl) (j + 1) (lk0, L)).1.pc) with
                  | true =>
                    rw [ho] at q
                    have e5 := (tr_end (of_decide_eq_true ho) (show j + 1 ≤ 100 by have := Hj.out.1; omega)).symm
                    rw [E.out] at e5
                    rw [e5] at q
                    have Q := Lib.hid q
                    clear q ho e5
                    go_wp2_with fail
                    refine (Q.out).mono ?_
                    rintro e w10 ⟨rfl, hs⟩
                    clear Q
                    go_wp2
                    go_meet
                    exact ⟨j + 1, acc3, by go_num, by have := Hj.out; omega, by have := Hj.out; omega, hs⟩
                  | false =>
                    rw [ho] at q
                    have Q := Lib.hid q
                    have Ho2 := Lib.hid (of_decide_eq_false ho)
                    clear q ho
                    go_wp2_with fail
                    refine (Q.out).mono ?_
                    rintro e w10 ⟨rfl, hs⟩
                    clear Q
                    go_wp2
                    go_roundw
                    case rel => exact ⟨j + 1, acc3, by go_num, by have := Ho2.out; omega, by have := Hj.out; omega, hs⟩
                    case measure => have := Hj.out; simp [intOf]; omega
              case rest =>
              clear hs
              obtain ⟨n, acc2, rfl, hn2, hacc2, hs⟩ := hcut
              have qc := cutRef_st (cap := capl) fl Hcl.out hs (hs.b2.row_vers (by have := HB.out.len; have := HB.out.nx_le; omega))
              have Qc := Lib.hid qc
              clear qc
              go_wp2_with fail
              refine (Qc.out).mono ?_
              clear hs Qc
              rintro e w12 ⟨va2, rfl, hs⟩
              obtain ⟨av2, capv2, rfl, hcv2, _⟩ := hs.row_read
              have hs := hs.b1
              have qd := trDead_st hs
              rw [Hok.out] at qd
              have Qd := Lib.hid qd
              clear qd hcv2
              go_wp2_with fail
              refine (Qd.out).mono ?_
              clear hs Qd
              rintro e w14 ⟨rfl, hs⟩
              have qr := deadRef_any (cap := capv2) fl (hs.b1.row_vers (by have := HN.out.len; have := HN.out.nx_le; omega))
              rw [vdead_vcut, ← Ho.out] at qr
              have Qr := Lib.hid qr
              clear qr
              go_wp2_with fail
              refine (Qr.out).mono ?_
              clear Qr
              rintro e w15 ⟨rfl, rfl⟩
              have g : (o != o) = false := by simp
              go_wp2
              go_meet
              exact ⟨nx, acc2, n, now, L', vcut fl vs, rs, rfl, rfl, rfl, hn2, hacc2, HN.out, hs.tail.b2.tail.b1⟩
              -- CUT>
            · have g5 : ((f k).kind % 6 == 5) = false := by simpa using h5
              clear h5
              rw [g5]
              obtain ⟨dl, hdl⟩ : ∃ dl, dl = (f k).del := ⟨_, rfl⟩
              obtain ⟨k', hk'⟩ : ∃ k', k' = wrV (f k).v dl := ⟨_, rfl⟩
              have hdel : dl = true → k' = ⟨#[]⟩ := fun h => by rw [hk']; exact wrV_del h
              have qw := fun w => write_below (kd := (f k).kind) (fl := (f k).fl) (del := (f k).del) hsz w
              rw [← hdl, ← hk'] at qw
              have Qw := Lib.hid qw
              have hnx : nx + 1 ≤ 100 := by have := HB.out.nx_le; omega
              obtain ⟨L3, hL3⟩ : ∃ L3, (it (inStep d 1 ((nx : Int) + 1) (valC k' dl)) 4 (⟨0, 0⟩, L)).2 = L3 := ⟨_, rfl⟩
              have ht3 := HB.out.top hd.out hch'.out hdel hnx hre'.out hL3
              have hold0 := HB.out.old
              have hold2 := HB.out.c.ok (d.chain 1)
              have HBk := Lib.hid (HB.out.back hd.out hch'.out hdel hnx hre'.out hL3)
              have HSt := Lib.hid (fun (t : Int) (ht : 0 ≤ t ∧ t ≤ now + 2 ∧ t < 18446744073709551616) => HB.out.stamp hd.out hch'.out hdel hnx hre'.out hL3 ht)
              obtain ⟨old, hold⟩ : ∃ old, old = (getC L (d.chain 1)).n := ⟨_, rfl⟩
              unfold CelOk at hold2
              rw [← hold] at ht3 HBk hold0 hold2
              have HT := Lib.hid ht3
              have Hold := Lib.hid hold0
              have Hdl := Lib.hid hdl
              have ks := hs.k0
              rw [← hdl] at ks
              clear qw hk' hdel hL3 ht3 hold0 hold hdl hsz
              go_wp2_with fail
              refine (Qw.out _).mono ?_
              rintro e w5 ⟨rfl, hb5⟩
              have hs := (hs.same hb5).made (.cells #[.string ⟨#[]⟩, .string k', .bool dl] 52)
              clear ks hb5
              obtain ⟨bw, hbw⟩ : ∃ bw, bw = w5.heap.size := ⟨_, rfl⟩
              have kw := hs.k0
              have kl := hs.tail.tail.tail.k2
              go_wp2_with fail
              rw [← hbw] at hs ⊢
              clear hbw kw kl
              refine (newInstall_st (d := d) (ch := 1) (r := (nx : Int) + 1) (key := ⟨#[]⟩) (v := k') (del := dl) hs).mono ?_
              clear hs
              rintro e w6 ⟨bi, rfl, hs⟩
              have hs := hs.b3.b1
              go_upto_region 23 with (fail)
              go_cut [14] (fun v wx => v = .int .u64 1 ∧ St (Know.of w) wx [inC bi d 1 ((nx : Int) + 1) ⟨#[]⟩ k' dl ⟨0, 0⟩, memC bm bc L acc, blk bw (.cells #[.string ⟨#[]⟩, .string k', .bool dl] 52), blk bs (.cells #[.int .i64 ((f k)).kind, .string ((f k)).v, .bool ((f k)).del, .int .u8 ((f k)).fl] 54), rowC (.slice al vs.length capl) 69 3 (vs).length (verRow vs), rowC (.slice ar rs.length capr) 23 1 (rs).length ((rs).map (Value.int .u64)), blk bl (.cells #[.int .i64 d.th, .int .i64 d.sn, .int .i64 d.no, .int .i64 d.ch, .int .i64 d.re, .int .i64 d.fa, .int .u64 d.cl] 30)])
              case first =>
                as_aux_lemma =>
                go_wp2
                go_meet
                exact ⟨rfl, hs⟩
              case rest =>
              clear hs
              obtain ⟨rfl, hs⟩ := hcut
              apply_assumption
              go_cut [14] (fun v wx => ∃ acc2 : Nat, v = .int .u64 4 ∧ acc2 ≤ acc + 4 ∧ St (Know.of w) wx [inC bi d 1 ((nx : Int) + 1) ⟨#[]⟩ k' dl ⟨4, old⟩, memC bm bc L3 acc2, blk bw (.cells #[.string ⟨#[]⟩, .string k', .bool dl] 52), blk bs (.cells #[.int .i64 ((f k)).kind, .string ((f k)).v, .bool ((f k)).del, .int .u8 ((f k)).fl] 54), rowC (.slice al vs.length capl) 69 3 (vs).length (verRow vs), rowC (.slice ar rs.length capr) 23 1 (rs).length ((rs).map (Value.int .u64)), blk bl (.cells #[.int .i64 d.th, .int .i64 d.sn, .int .i64 d.no, .int .i64 d.ch, .int .i64 d.re, .int .i64 d.fa, .int .u64 d.cl] 30)])
              case first =>
                as_aux_lemma =>
                clear hk20 h10' hk ht hfl
                go_wp2
                go_loopw [14] (fun vj wr => ∃ (j acc2 : Nat), vj = .int .u64 ((j : Int) + 1) ∧ j ≤ 3 ∧ acc2 ≤ acc + j ∧ St (Know.of w) wr [inC bi d 1 ((nx : Int) + 1) ⟨#[]⟩ k' dl (it (inStep d 1 ((nx : Int) + 1) (valC k' dl)) j (⟨0, 0⟩, L)).1, memC bm bc (it (inStep d 1 ((nx : Int) + 1) (valC k' dl)) j (⟨0, 0⟩, L)).2 acc2, blk bw (.cells #[.string ⟨#[]⟩, .string k', .bool dl] 52), blk bs (.cells #[.int .i64 ((f k)).kind, .string ((f k)).v, .bool ((f k)).del, .int .u8 ((f k)).fl] 54), rowC (.slice al vs.length capl) 69 3 (vs).length (verRow vs), rowC (.slice ar rs.length capr) 23 1 (rs).length ((rs).map (Value.int .u64)), blk bl (.cells #[.int .i64 d.th, .int .i64 d.sn, .int .i64 d.no, .int .i64 d.ch, .int .i64 d.re, .int .i64 d.fa, .int .u64 d.cl] 30)]) (fun vj _ => 200 - (intOf vj).toNat)
                case atStart => exact ⟨0, acc, rfl, by omega, by omega, hs⟩
                case round =>
                  clear hs
                  obtain ⟨j, acc2, rfl, hj, hacc2, hs⟩ := hrel
                  have q := inStep_st hd.out (by omega) (by omega) (by omega) hs
                  rw [← it_succ (inStep d 1 ((nx : Int) + 1) (valC k' dl)) j (⟨0, 0⟩, L), in_pc (j + 1) (by omega)] at q
                  have hal := accTo_le 4 (it (inStep d 1 ((nx : Int) + 1) (valC k' dl)) j (⟨0, 0⟩, L)).1.pc acc2
                  generalize accTo 4 (it (inStep d 1 ((nx : Int) + 1) (valC k' dl)) j (⟨0, 0⟩, L)).1.pc acc2 = acc3 at *
                  have hj9 : (j : Int) + 1 < 200 := by omega
                  have Hj := Lib.hid (show acc3 ≤ acc + (j + 1) by omega)
                  clear hs hal hacc2 hacc
                  by_cases h : j = 3
                  · subst h
                    rw [show decide (4 ≤ 3 + 1) = true by rfl] at q
                    have Q := Lib.hid q
                    clear q
                    go_wp2_with fail
                    refine (Q.out).mono ?_
                    rintro e w10 ⟨rfl, hs⟩
                    rw [show 3 + 1 = 4 by rfl, HT.out.2] at hs
                    clear Q
                    go_wp2
                    go_meet
                    exact ⟨acc3, rfl, Hj.out, hs⟩
                  · rw [show decide (4 ≤ j + 1) = false by simp; omega] at q
                    have Q := Lib.hid q
                    have Hj2 := Lib.hid (show j + 1 ≤ 3 by omega)
                    clear q h hj
                    go_wp2_with fail
                    refine (Q.out).mono ?_
                    rintro e w10 ⟨rfl, hs⟩
                    clear Q
                    go_wp2
                    go_roundw
                    case rel => exact ⟨j + 1, acc3, by go_num, Hj2.out, Hj.out, hs⟩
                    case measure => have := Hj2.out; simp [intOf]; omega
              case rest =>
              clear hs
              obtain ⟨acc2, rfl, hacc2, hs⟩ := hcut
              go_upto_region 27 with (fail)
              go_cut [116] (fun v wx => v = .bool (decide (0 < vs.length)) ∧ St (Know.of w) wx [inC bi d 1 ((nx : Int) + 1) ⟨#[]⟩ k' dl ⟨4, old⟩, memC bm bc L3 acc2, blk bw (.cells #[.string ⟨#[]⟩, .string k', .bool dl] 52), blk bs (.cells #[.int .i64 ((f k)).kind, .string ((f k)).v, .bool ((f k)).del, .int .u8 ((f k)).fl] 54), rowC (.slice al vs.length capl) 69 3 (vs).length (verRow vs), rowC (.slice ar rs.length capr) 23 1 (rs).length ((rs).map (Value.int .u64)), blk bl (.cells #[.int .i64 d.th, .int .i64 d.sn, .int .i64 d.no, .int .i64 d.ch, .int .i64 d.re, .int .i64 d.fa, .int .u64 d.cl] 30)])
              case first =>
                as_aux_lemma =>
                clear hk20 h10' hk ht hfl hacc hacc2
                by_cases hv : 0 < vs.length
                · have hv2 : (0 : Int) < (vs.length : Int) := by omega
                  go_wp2
                  go_meet
                  exact ⟨by simp [hv], hs⟩
                · have hv2 : ¬ (0 : Int) < (vs.length : Int) := by omega
                  go_wp2
                  go_meet
                  exact ⟨by simp [hv], hs⟩
              case rest =>
              clear hs
              obtain ⟨rfl, hs⟩ := hcut
              apply_assumption
              go_cut [19] (fun v wx => v = .int .u64 old ∧ St (Know.of w) wx [inC bi d 1 ((nx : Int) + 1) ⟨#[]⟩ k' dl ⟨4, old⟩, memC bm bc L3 acc2, blk bw (.cells #[.string ⟨#[]⟩, .string k', .bool dl] 52), blk bs (.cells #[.int .i64 ((f k)).kind, .string ((f k)).v, .bool ((f k)).del, .int .u8 ((f k)).fl] 54), rowC (.slice al vs.length capl) 69 3 (vs).length (verRow vs), rowC (.slice ar rs.length capr) 23 1 (rs).length ((rs).map (Value.int .u64)), blk bl (.cells #[.int .i64 d.th, .int .i64 d.sn, .int .i64 d.no, .int .i64 d.ch, .int .i64 d.re, .int .i64 d.fa, .int .u64 d.cl] 30)])
              case first =>
                as_aux_lemma =>
                clear hk20 h10' hk ht hfl hacc hacc2
                by_cases hv : 0 < vs.length
                · rw [decide_eq_true hv]
                  obtain ⟨v, us, hvu⟩ : ∃ v us, vs = v :: us := by
                    cases vs with
                    | nil => simp at hv
                    | cons v us => exact ⟨v, us, rfl⟩
                  obtain ⟨hr0, hr1⟩ := HB.out.last v us hvu
                  have ho := Hold.out.2 v us hvu
                  obtain ⟨m, hm⟩ : ∃ m, m + 1 = rs.length := ⟨rs.length - 1, by omega⟩
                  obtain ⟨g, hg, hc⟩ := (hs.b5).row_at (j := m) (x := .int .u64 old) (by rw [List.getElem?_map, show m = rs.length - 1 by omega, hr1, ho]; rfl)
                  have hx : (rs.length : Int) - 1 = (m : Int) := by omega
                  have hml : m < rs.length := by omega
                  have hw : wrap64 (m : Int) = (m : Int) := by have := HB.out.rlen; have := HB.out.nx_le; unfold wrap64; omega
                  clear hvu hr0 hr1 ho hv
                  subst hg
                  go_wp2
                  go_meet
                  exact ⟨rfl, hs⟩
                · rw [decide_eq_false hv]
                  have ho := Hold.out.1 (List.eq_nil_of_length_eq_zero (by omega))
                  subst ho
                  go_wp2
                  go_meet
                  exact ⟨rfl, hs⟩
              case rest =>
              clear hs
              obtain ⟨rfl, hs⟩ := hcut
              have kl := hs.tail.tail.tail.tail.k2
              have hlen2 := HB.out.len
              have hnle := HB.out.nx_le
              go_wp2_with fail
              refine (peekChain_st (ch := 1) hd.out ⟨by omega, by have := hch'.out; omega⟩ HT.out.1.ok HT.out.1.link (by have := hre'.out; simp; omega) hs.b1).mono ?_
              clear hs kl
              rintro e w11 ⟨va, rfl, hs⟩
              obtain ⟨ap, capp, rfl, hcp, _⟩ := hs.row_read
              obtain ⟨g, hg, c0⟩ := hs.row_at (j := 0) (x := .int .u64 0) rfl
              subst hg
              have c1 := hs.row_cell (j := 1) (x := .string k') rfl
              have c2 := hs.row_cell (j := 2) (x := .bool dl) rfl
              have kw := hs.tail.k2
              have qo := fun wz (hy : ∃ x : Ext, wz = over w11 x) => inOld_any wz (blk_same (Pure.below hy) hs.tail.tail.head)
              have hvp := hs.row_vers (by simp; omega)
              have hvl := (hs.b5).row_vers (by omega)
              have qs := fun wz (hy : ∃ x : Ext, wz = over w11 x) => same_vers (cap := capp - 1) (cap' := capl) (a := if capp = 1 then some ⟨g, 0, none⟩ else some ⟨g, 3, none⟩) wz (by
                split
                · rename_i h1
                  have : vs = [] := List.eq_nil_of_length_eq_zero (by simp at hcp; omega)
                  rw [this]; exact versAt_nil _ _
                · simpa using versAt_tail (hvp.same (Pure.below hy))) (hvl.same (Pure.below hy))
              have Qo := Lib.hid qo
              have Qs := Lib.hid qs
              have g1 : (old != old) = false := by simp
              have g2 : ((vs.length : Int) + 1 != (vs.length : Int) + 1) = false := by simp
              have g3 : (1 : Int) ≤ (vs.length : Int) + 1 := by omega
              have g4 : vs.length + 1 ≤ capp := hcp
              have hq := neq_ver 0 k' dl
              have hvb : vs.length ≤ 20 := by omega
              clear qo qs hvp hvl hlen2 hnle hcp
              go_upto_region 30 with (fail)
              go_cut [155] (fun v wx => v = .bool false ∧ St (Know.of w) wx [rowC (.slice (some ⟨g, 0, none⟩) (vs.length + 1) capp) 69 3 ((⟨(nx : Int) + 1, 0, k', dl⟩ :: vs)).length (verRow (⟨(nx : Int) + 1, 0, k', dl⟩ :: vs)), memC bm bc L3 acc2, inC bi d 1 ((nx : Int) + 1) ⟨#[]⟩ k' dl ⟨4, old⟩, blk bw (.cells #[.string ⟨#[]⟩, .string k', .bool dl] 52), blk bs (.cells #[.int .i64 ((f k)).kind, .string ((f k)).v, .bool ((f k)).del, .int .u8 ((f k)).fl] 54), rowC (.slice al vs.length capl) 69 3 (vs).length (verRow vs), rowC (.slice ar rs.length capr) 23 1 (rs).length ((rs).map (Value.int .u64)), blk bl (.cells #[.int .i64 d.th, .int .i64 d.sn, .int .i64 d.no, .int .i64 d.ch, .int .i64 d.re, .int .i64 d.fa, .int .u64 d.cl] 30)])
              case first =>
                as_aux_lemma =>
                clear hk20 h10' hk ht hfl hacc hacc2
                refine region_pure (by kernel_rfl) (by as_aux_lemma => kernel_rfl) ?_
                repeat (go_big_quiet_step (first | (go_at_call 42; exact pure_of_same (Qo.out _ ⟨_, rfl⟩)) | (go_at_call 44; exact pure_of (Qs.out _ ⟨_, rfl⟩))))
                all_goals
                  refine wpQuiet_nil ?_
                  intro w12 hb12
                  have hs := hs.same hb12
                  clear c0 c1 c2 kw hb12 g1 g2 g3 g4 hq Qs
                  rename_i hK
                  refine hK _ _ ?_
                  go_meet
                  exact ⟨rfl, hs⟩
              case rest =>
              clear hs c0 c1 c2 kw g1 g2 g3 g4 hq Qs Qo
              obtain ⟨rfl, hs⟩ := hcut
              have ks := hs.tail.tail.k2
              go_wp2_with fail
              refine (Qm.out _).mono ?_
              rintro e w13 ⟨rfl, rfl⟩
              by_cases h4 : (f k).kind % 6 = 4
              · have g4 : ((f k).kind % 6 == 4) = true := by simpa using h4
                -- <BB1
                clear h4 ks
                go_upto_region 34 with (fail)
                refine wp_ck hs ?_
                clear hs
                intro W hs
                have kl := hs.tail.tail.tail.tail.tail.k2
                have qo := fun wz (hy : ∃ x : Ext, wz = over W x) => inOld_any wz (blk_same (Pure.below hy) hs.tail.tail.head)
                have Qo := Lib.hid qo
                clear qo
                refine region_tail 3 (by kernel_rfl) (by as_aux_lemma => kernel_rfl) ?_
                simp only [List.take_succ_cons, List.take_zero, List.drop_succ_cons, List.drop_zero]
                repeat (go_big_quiet_step ((go_at_call 42; exact pure_of_same (Qo.out _ ⟨_, rfl⟩))))
                refine wpQuiet_nil ?_
                intro w14 hb14
                have hs := (hs.same hb14).b1
                clear kl hb14 Qo
                go_wp2_with fail
                refine (newRestore_st (ch := 1) (t := old) hd.out (by omega) hs).mono ?_
                clear hs
                rintro e w15 ⟨b1, bi2, bn, rfl, hs⟩
                go_wp2_with fail
                refine (restoreStep_st (by omega) hs).mono ?_
                clear hs
                rintro e w16 ⟨rfl, hs⟩
                go_wp2
                go_meet
                exact ⟨nx + 1, acc2 + 1, 5, now, _, vs, rs, rfl, by go_num, rfl, by omega, by omega, HBk.out, hs.sub (.cons_cons _ (.cons _ (.cons _ (.cons _ (.cons _ (List.Sublist.refl _))))))⟩
                -- BB1>
              · have g4 : ((f k).kind % 6 == 4) = false := by simpa using h4
                -- <BB2
                clear h4
                have hn0 := HB.out.now0
                have hn1 := HB.out.now_le
                have kl := hs.tail.tail.tail.tail.tail.k2
                have hs := hs.b1
                obtain ⟨t, ht1⟩ : ∃ t : Int, t = now + 1 + (f k).fl % 2 := ⟨_, rfl⟩
                have ht2 : 0 ≤ t ∧ t ≤ now + 2 ∧ t < 18446744073709551616 := by omega
                go_upto_region 38 with (fail)
                rw [← ht1]
                clear ht1 ks
                go_wp2_with fail
                refine (newStamp_st (r := (nx : Int) + 1) (t := t) hd.out (by omega) hs).mono ?_
                clear hs kl
                rintro e w15 ⟨b1, bi2, bn, rfl, hs⟩
                go_wp2_with fail
                refine (stampStep_st (by omega) hs).mono ?_
                clear hs
                rintro e w16 ⟨rfl, hs⟩
                have kw := hs.tail.k2
                have hv := (hs.b5).row_vers (by have := HB.out.len; have := HB.out.nx_le; omega)
                have hs := (hs.made (.cells [.int .u64 t, .string k', .bool dl].toArray 69)).row_lit (n := 1) (size := 3) rfl (by decide)
                have Hv := Lib.hid (hv.same ((Below.refl w16.heap.size w16).alloc (Nat.le_refl _) (.cells [.int .u64 t, .string k', .bool dl].toArray 69)))
                have H0 : Hid (al = none → vs.length = 0) := Lib.hid (fun e => by subst e; rw [Hv.out.none]; rfl)
                have Hs := Lib.hid hs
                have hvb : vs.length ≤ 20 := by have := HB.out.len; have := HB.out.nx_le; omega
                have hrb : rs.length ≤ 20 := by have := HB.out.rlen; have := HB.out.nx_le; omega
                clear hv hs
                go_wp2_with (at_builtin; refine append_row_st _ _ 58 69 _ 1 vs.length _ 3 32 _ (verRow vs) (.agg #[.int .u64 0, .string ⟨#[]⟩, .bool false]) iv al Hs.out rfl rfl Try.underlying58 hiv0 hiv1 hiv2 hiv3 rfl (by decide) rfl rfl (verRow_length vs) H0.out Hv.out.newsAll (verRow_one vs) (by omega) (by decide) ?_)
                clear Hs kw
                intro v' w' hs
                rw [Nat.add_comm 1 vs.length] at hs
                have hs : St (Know.of w) w' [rowC v' 69 3 (vs.length + 1) (verRow (⟨(nx : Int) + 1, t, k', dl⟩ :: vs)), memC bm bc (putC L3 (d.record ((nx : Int) + 1) 0) ⟨t, ⟨#[]⟩, 0⟩) (acc2 + 1), rowC (.slice ar rs.length capr) 23 1 (rs).length ((rs).map (Value.int .u64)), blk bl (.cells #[.int .i64 d.th, .int .i64 d.sn, .int .i64 d.no, .int .i64 d.ch, .int .i64 d.re, .int .i64 d.fa, .int .u64 d.cl] 30)] := hs.sub (.cons_cons _ (.cons_cons _ (.cons _ (.cons _ (.cons _ (.cons _ (.cons _ (List.Sublist.refl _))))))))
                have Hs := Lib.hid hs.b2
                clear hs
                go_wp2_with (at_builtin; refine append_st _ _ 92 23 _ rs.length 1 8 _ [.int .u64 ((nx : Int) + 1)] (.int .u64 0) iu Hs.out rfl rfl Try.underlying92 hiu0 hiu1 hiu2 hiu3 rfl (by decide) rfl rfl rfl (fun u hu => by simp at hu; subst hu; rfl) (by omega) (by decide) ?_)
                clear Hs
                intro v2 w2' hs
                go_wp2
                go_meet
                exact ⟨nx + 1, acc2 + 1, 5, t, _, ⟨(nx : Int) + 1, t, k', dl⟩ :: vs, rs ++ [(nx : Int) + 1], rfl, by go_num, rfl, by omega, by omega, HSt.out t ht2, by rw [List.length_append, List.map_append]; exact hs.b2.b2.b1⟩
                -- BB2>
          case rest =>
            clear hs
            obtain ⟨nx2, acc2, n, now2, L2, vs2, rs2, rfl, rfl, rfl, hn2, hacc2, hB2, hs⟩ := hcut
            obtain ⟨al2, capl2, hv7, hcl2, _⟩ := hs.b1.row_read
            subst hv7
            obtain ⟨ar2, capr2, hv8, _, _⟩ := hs.b2.row_read
            subst hv8
            have HB2 := Lib.hid hB2
            have Hcl2 := Lib.hid hcl2
            have Hac := Lib.hid hacc2
            have hn3 : ¬ (200 : Int) ≤ (n : Int) := by omega
            have hn4 : ¬ ((acc : Int) + (n : Int) < (acc2 : Int)) := by omega
            have hln : vs2.length ≤ 21 := by have := hB2.len; have := hB2.nx_le; omega
            clear hB2 hcl2 hacc2 hfl
            have kl := hs.tail.k2
            go_wp2_with fail
            refine (accesses_st hs.mem).mono ?_
            rintro e w4 ⟨rfl, rfl⟩
            go_wp2_with fail
            refine (peekChain_st (ch := 1) hd.out ⟨by omega, by have := hch'.out; omega⟩ HB2.out.c.ok HB2.out.c.link (by have := hre'.out; omega) hs).mono ?_
            clear hs kl
            rintro e w5 ⟨va, rfl, hs⟩
            obtain ⟨av, capv, rfl, _, _⟩ := hs.row_read
            have qs := same_vers (cap := capv) (cap' := capl2) w5 (hs.row_vers (by omega)) (hs.b2.row_vers (by omega))
            have Qs := Lib.hid qs
            clear qs
            go_wp2_with fail
            refine (calls_same hs Qs.out).mono ?_
            clear hs Qs
            rintro e w6 ⟨rfl, hs⟩
            have hs := hs.tail
            have kl := hs.tail.k2
            go_wp2_with fail
            refine (peekChain_st (ch := 2) (vs := []) hd.out ⟨by omega, by have := hch'.out; omega⟩ HB2.out.c.ok HB2.out.z (by have := hre'.out; simp; omega) hs).mono ?_
            clear hs kl
            rintro e w7 ⟨va, rfl, hs⟩
            obtain ⟨av3, capv3, rfl, _, _⟩ := hs.row_read
            have qs := same_vers (cap := capv3) (cap' := 0) (vs := []) w7 (versAt_nil _ av3) (versAt_nil _ none)
            have Qs := Lib.hid qs
            clear qs
            go_wp2_with fail
            refine (calls_same hs Qs.out).mono ?_
            clear hs Qs
            rintro e w8 ⟨rfl, hs⟩
            have hs := hs.tail.made (.cells #[.int .u64 0, .int .u64 now2, .int .u64 (now2 / 2), .int .u64 (tm % 40), .int .u64 tm] 23)
            obtain ⟨ba, hba⟩ : ∃ ba, ba = w8.heap.size := ⟨_, rfl⟩
            have hnow0 := HB2.out.now0
            have hnow1 := HB2.out.now_le
            go_wp2
            rw [← hba] at hs ⊢
            clear hba hn3 hn4
            go_loopw [231] (fun vi wr => ∃ (i acc3 : Nat), i ≤ 5 ∧ vi = .int .i64 i ∧ acc3 ≤ acc2 + 500 * i ∧ St (Know.of w) wr [memC bm bc L2 acc3, rowC (.slice al2 vs2.length capl2) 69 3 (vs2).length (verRow vs2), rowC (.slice ar2 rs2.length capr2) 23 1 (rs2).length ((rs2).map (Value.int .u64)), blk ba (.cells #[.int .u64 0, .int .u64 now2, .int .u64 (now2 / 2), .int .u64 (tm % 40), .int .u64 tm] 23), blk bl (.cells #[.int .i64 d.th, .int .i64 d.sn, .int .i64 d.no, .int .i64 d.ch, .int .i64 d.re, .int .i64 d.fa, .int .u64 d.cl] 30)]) (fun vi _ => 5 - (intOf vi).toNat)
            case atStart => exact ⟨0, acc2, by omega, rfl, by omega, hs.u3⟩
            case round =>
              clear hs
              obtain ⟨i, acc3, hi5, rfl, hacc3, hs⟩ := hrel
              have Hac3 := Lib.hid hacc3
              clear hacc3
              by_cases h5 : i < 5
              · obtain ⟨ti, kt⟩ : ∃ ti : Int, wr.cell? ⟨ba, i, none⟩ = some (.int .u64 ti) := by
                  rw [hs.tail.tail.tail.k0 i]
                  match i, h5 with
                  | 0, _ => exact ⟨_, rfl⟩
                  | 1, _ => exact ⟨_, rfl⟩
                  | 2, _ => exact ⟨_, rfl⟩
                  | 3, _ => exact ⟨_, rfl⟩
                  | 4, _ => exact ⟨_, rfl⟩
                have kl := hs.tail.tail.k2
                have h5' : (i : Int) < 5 := by omega
                obtain ⟨V1, hV1⟩ : ∃ x, x = (vval ti vs2).1 := ⟨_, rfl⟩
                obtain ⟨V2, hV2⟩ : ∃ x, x = (vval ti vs2).2 := ⟨_, rfl⟩
                have qr := read_st (tm := ti) (ch := 1) hd.out (by omega) HB2.out.c.ok HB2.out.c.link (by omega) (by have := Hac3.out; have := Hac.out; omega) hs
                have qv := fun wz (hz : VersAt wz al2 vs2) => valueRef_any (cap := capl2) ti wz hz
                rw [← hV1, ← hV2] at qr qv
                have Qr := Lib.hid qr
                have Qv := Lib.hid qv
                clear qr qv hV1 hV2 hs hnow0 hnow1 hi5 hk hacc hk20 h10' ht
                have g1 : (V2 != V2) = false := by simp
                go_wp2_with fail
                refine (Qr.out).mono ?_
                clear Qr kt kl
                rintro e w9 ⟨acc4, rfl, hacc4, hs⟩
                have Ha4 := Lib.hid hacc4
                clear hacc4
                go_wp2_with fail
                refine (calls_same hs (Qv.out _ (hs.b1.row_vers (by omega)))).mono ?_
                clear hs Qv
                rintro e w10 ⟨rfl, hs⟩
                go_wp2
                go_roundw
                case rel => exact ⟨i + 1, acc4, by omega, by go_num, by have := Ha4.out; have := Hac3.out; omega, hs⟩
                case measure => simp [intOf]; omega
              · have hi6 : i = 5 := by omega
                have h5' : ¬ (i : Int) < 5 := by omega
                clear hi5 h5
                go_wp2
                go_roundw
                case rel => exact ⟨k + 1, nx2, acc3, now2, L2, vs2, rs2, by omega, rfl, rfl, by go_num, by have := Hac3.out; have := Hac.out; omega, HB2.out, hs.b3.tail⟩
                case measure => simp [intOf]; omega
      · obtain rfl : k = len := by omega
        have kl := hs.tail.tail.k1
        clear hlt
        go_wp2_with fail
        refine (peekNone_any hd.out hs).mono ?_
        clear hs kl
        rintro e w4 ⟨rfl, hs⟩
        go_wp2
        go_ret
        exact ⟨rfl, hs.below (Know.Le.refl _)⟩
end Go.Proofs.Ytfgjanponijkhaa
