/- The walk of ChainRestoreUndoes. -/
import Derived.Test.YtfgjanponijkhaaAw10
import Derived.Test.YtfgjanponijkhaaStepsIn
namespace Go.Proofs.Ytfgjanponijkhaa
open Go.RowKit
set_option maxRecDepth 100000

theorem in_mid {d : Cfg} (hd : d.Ok) {ch : Int} (hch : 1 ≤ ch ∧ ch ≤ d.ch) {L : List Cel} {vs : List Ver} {n r : Int} (h : ChOk d ch L vs n) (hr : n < r) (hr1 : 1 ≤ r) (hr2 : r ≤ d.re) {k : ByteArray} {del : Bool} (h0 : del = true → k = ⟨#[]⟩) {j : Nat} (hj : j ≤ 3) :
    ChOk d ch (it (inStep d ch r (valC k del)) j (⟨0, 0⟩, L)).2 vs n := by
  obtain ⟨L1, L2, L3, e1, e2, e3, _, c1, c2, _, _⟩ := in_steps hd hch h hr hr1 hr2 h0
  match j, hj with
  | 0, _ => exact h
  | 1, _ => rw [e1]; exact h
  | 2, _ => rw [e2]; exact c1
  | 3, _ => rw [e3]; exact c2

/-- The chain that the first loop has built. -/
def Built (d : Cfg) (n : Nat) (L : List Cel) (vs : List Ver) : Prop := vs.length = n ∧ ChOk d 1 L vs n

set_option maxHeartbeats 4000000 in
theorem chainRestoreUndoes_walk (a : Option Addr) (len cap : Nat) (f : Nat → StepD) (v : ByteArray) (del : Bool) (tm : Int) (hv : v.size ≤ maxLen) (ht : 0 ≤ tm ∧ tm < 18446744073709551616) (w : World) (hrow : StepsIn w a len f) :
    Calls Try.prog 4 #[.slice a len cap, .string v, .bool del, .int .u64 tm] w fun e w' => e = .returned (.bool true) ∧ Below w.heap.size w w' := by
  obtain ⟨d, hd, hch, hre, Q1, Q2⟩ : ∃ d : Cfg, Hid d.Ok ∧ d.ch = 100 ∧ d.re = 200 ∧ Hid (∀ w, Calls Try.prog 17 #[.int .i64 1, .int .i64 0] w fun e w' => e = .returned (.agg #[.int .i64 d.th, .int .i64 d.sn, .int .i64 d.no, .int .i64 d.ch, .int .i64 d.re, .int .i64 d.fa, .int .u64 d.cl]) ∧ Below w.heap.size w w') ∧ Hid (∀ w K cs, St K w cs → Calls Try.prog 18 #[.agg #[.int .i64 d.th, .int .i64 d.sn, .int .i64 d.no, .int .i64 d.ch, .int .i64 d.re, .int .i64 d.fa, .int .u64 d.cl]] w fun e w'' => ∃ bm bc, e = .returned (.tuple #[.agg #[.int .i64 d.th, .int .i64 d.sn, .int .i64 d.no, .int .i64 d.ch, .int .i64 d.re, .int .i64 d.fa, .int .u64 d.cl], .pointer (some ⟨bm, 0, none⟩)]) ∧ St K w'' (memC bm bc (startL d) 0 :: cs)) :=
    ⟨kitC 1 4 1000, Lib.hid kit10_ok, rfl, rfl, Lib.hid (fun w => kitConfig_any 1 0 w), Lib.hid (fun w K cs hs => kitMemory_st kit10_ok hs)⟩
  have C0 : Hid (Built d 0 (startL d) []) := Lib.hid ⟨rfl, kit10_chain d hd.out⟩
  generalize startL d = L0 at *
  have hch1 : Hid ((1 : Int) ≤ 1 ∧ (1 : Int) ≤ d.ch) := Lib.hid (by omega)
  have hre' : Hid (d.re = 200) := Lib.hid hre
  clear hch hre
  have hlen := hrow.1
  unfold maxLen at hlen
  have Hrow := Lib.hid hrow
  clear hrow
  have hs := St.start w
  go_enter Try.func4, Try.ntmps4
  go_wp2_with fail
  refine (calls_same hs (Q1.out _)).mono ?_
  clear hs
  rintro e w1 ⟨rfl, hs⟩
  go_wp2_with fail
  refine (Q2.out _ _ _ hs).mono ?_
  clear hs
  rintro e w2 ⟨bm, bc, rfl, hs⟩
  have hs := hs.made (.cells #[.int .i64 d.th, .int .i64 d.sn, .int .i64 d.no, .int .i64 d.ch, .int .i64 d.re, .int .i64 d.fa, .int .u64 d.cl] 30)
  obtain ⟨bl, hbl⟩ : ∃ bl, bl = w2.heap.size := ⟨_, rfl⟩
  go_wp2_with fail
  rw [← hbl] at hs ⊢
  clear hbl
  refine (awake10_st hs).mono ?_
  clear hs
  rintro e w3 ⟨rfl, hs⟩
  by_cases h10 : 10 < len
  · go_wp2_with fail
    refine (awake10_st hs).mono ?_
    clear hs
    rintro e w4 ⟨rfl, hs⟩
    go_wp2
    go_ret
    exact ⟨rfl, hs.below (Know.Le.refl _)⟩
  · have h10' : len ≤ 10 := by omega
    clear h10
    go_wp2
    go_loopw [11, 12] (fun vn vk wr => ∃ (n acc : Nat) (L : List Cel) (vs : List Ver), n ≤ len ∧ vn = .int .u64 n ∧ vk = .int .i64 n ∧ acc ≤ 5 * n ∧ Built d n L vs ∧ St (Know.of w) wr [memC bm bc L acc, blk bl (.cells #[.int .i64 d.th, .int .i64 d.sn, .int .i64 d.no, .int .i64 d.ch, .int .i64 d.re, .int .i64 d.fa, .int .u64 d.cl] 30)]) (fun _ vk _ => len - (intOf vk).toNat)
    case atStart => exact ⟨0, 0, L0, [], by omega, rfl, rfl, by omega, C0.out, hs.b1⟩
    case round =>
      clear hs
      obtain ⟨n, acc, L, vs, hn, rfl, rfl, hacc, hB, hs⟩ := hrel
      have HB := Lib.hid hB
      clear hB
      by_cases hlt : n < len
      · obtain ⟨b, off, rfl, _, c0, c1, c2, c3, hsz, _, _⟩ := (Hrow.out.keep (hs.below (Know.Le.refl _))).2 n hlt
        obtain ⟨k', hk'⟩ : ∃ k', k' = wrV (f n).v (f n).del := ⟨_, rfl⟩
        have hdel : (f n).del = true → k' = ⟨#[]⟩ := fun h => by rw [hk']; exact wrV_del h
        have qw := fun w => write_below (kd := (f n).kind) (fl := (f n).fl) (del := (f n).del) hsz w
        rw [← hk'] at qw
        have Qw := Lib.hid qw
        have hr2 : ((n : Int) + 1) ≤ d.re := by have := hre'.out; omega
        obtain ⟨L1, L2, L3, _, _, _, e4, _, _, c3', _⟩ := in_steps hd.out hch1.out HB.out.2 (r := (n : Int) + 1) (by omega) (by omega) hr2 hdel
        have c4 := c3'.stamp hd.out hch1.out (t := 2 * ((n : Int) + 1)) ⟨by omega, by omega⟩
        have E4 := Lib.hid e4
        have C4 := Lib.hid c4
        have kl := hs.k1
        clear hsz qw hk' hdel e4 c3' c4 hr2
        go_upto_region 9 with (fail)
        refine region_tail 8 (by kernel_rfl) (by as_aux_lemma => kernel_rfl) ?_
        simp only [List.take_succ_cons, List.take_zero, List.drop_succ_cons, List.drop_zero]
        repeat (go_big_quiet_step ((go_at_call 33; exact pure_of (Qw.out _))))
        refine wpQuiet_nil ?_
        intro w5 hb5
        have hs := hs.same hb5
        clear kl c0 c1 c2 c3 hb5
        go_wp2_with fail
        refine (install_st (r := (n : Int) + 1) hd.out (by omega) (by omega) hs).mono ?_
        clear hs
        rintro e w6 ⟨acc', rfl, hacc', hs⟩
        rw [E4.out] at hs
        have kl := hs.k1
        go_wp2_with fail
        refine (newStamp_st (r := (n : Int) + 1) (t := 2 * ((n : Int) + 1)) hd.out (by omega) hs).mono ?_
        clear hs kl
        rintro e w7 ⟨b1, bi, bn, rfl, hs⟩
        go_wp2_with fail
        refine (stampStep_st (by omega) hs).mono ?_
        clear hs
        rintro e w8 ⟨rfl, hs⟩
        go_wp2
        go_roundw
        case rel => exact ⟨n + 1, acc' + 1, _, ⟨(n : Int) + 1, 2 * ((n : Int) + 1), k', (f n).del⟩ :: vs, by omega, by go_num, by go_num, by omega, ⟨by simp [HB.out.1], by exact_mod_cast C4.out⟩, hs⟩
        case measure => simp [intOf]; omega
      · obtain rfl : n = len := by omega
        have kl := hs.k1
        have HL := Lib.hid HB.out.2
        have Hlen := Lib.hid HB.out.1
        clear hlt hn HB
        go_wp2_with fail
        refine (peekChain_st (ch := 1) hd.out hch1.out HL.out.ok HL.out.link (by have := Hlen.out; have := hre'.out; omega) hs).mono ?_
        rw [Hlen.out]
        clear hs kl
        rintro e w5 ⟨va, rfl, hs⟩
        obtain ⟨av, capv, rfl, _, _⟩ := hs.row_read
        have kl := hs.k2
        obtain ⟨x0, hx0⟩ : ∃ x, x = (vval (tm % 30) vs).1 := ⟨_, rfl⟩
        obtain ⟨o0, ho0⟩ : ∃ x, x = (vval (tm % 30) vs).2 := ⟨_, rfl⟩
        have qr : ∀ (wz : World) (acc : Nat) (cs : List Comp) (L' : List Cel) (m : Int), ChOk d 1 L' vs m → acc ≤ 1000000 → St (Know.of w) wz (memC bm bc L' acc :: cs) → Calls Try.prog 37 #[.agg #[.int .i64 d.th, .int .i64 d.sn, .int .i64 d.no, .int .i64 d.ch, .int .i64 d.re, .int .i64 d.fa, .int .u64 d.cl], .pointer (some ⟨bm, 0, none⟩), .int .u64 1, .int .u64 (tm % 30)] wz fun e w' => ∃ acc', e = .returned (.tuple #[.string x0, .bool o0]) ∧ acc' ≤ acc + 500 ∧ St (Know.of w) w' (memC bm bc L' acc' :: cs) := by
          intro wz acc cs L' m hc ha hs
          rw [hx0, ho0]
          exact read_st hd.out (by omega) hc.ok hc.link (by have := Hlen.out; omega) (by omega) hs
        obtain ⟨x1, hx1⟩ : ∃ x, x = (vval 1099511627776 vs).1 := ⟨_, rfl⟩
        obtain ⟨o1, ho1⟩ : ∃ x, x = (vval 1099511627776 vs).2 := ⟨_, rfl⟩
        obtain ⟨k', hk'⟩ : ∃ k', k' = wrV v del := ⟨_, rfl⟩
        have hdel : del = true → k' = ⟨#[]⟩ := fun h => by rw [hk']; exact wrV_del h
        have qw := fun w => write_below (kd := 0) (fl := 0) (del := del) hv w
        rw [← hk'] at qw
        have hr2 : ((n : Int) + 1) ≤ d.re := by have := hre'.out; omega
        obtain ⟨L1, L2, L3, _, _, _, e4, _, _, c3, e5⟩ := in_steps hd.out hch1.out HL.out (r := (n : Int) + 1) (by omega) (by omega) hr2 hdel
        have c5 := c3.back hd.out hch1.out e5.symm
        have hmid := fun (j : Nat) (hj : j ≤ 3) => in_mid hd.out hch1.out HL.out (r := (n : Int) + 1) (by omega) (by omega) hr2 hdel hj
        have q22 : ∀ (wz : World) (acc : Nat) (cs : List Comp), acc ≤ 1000000 → St (Know.of w) wz (memC bm bc L3 acc :: cs) → Calls Try.prog 37 #[.agg #[.int .i64 d.th, .int .i64 d.sn, .int .i64 d.no, .int .i64 d.ch, .int .i64 d.re, .int .i64 d.fa, .int .u64 d.cl], .pointer (some ⟨bm, 0, none⟩), .int .u64 1, .int .u64 1099511627776] wz fun e w' => ∃ acc', e = .returned (.tuple #[.string x1, .bool o1]) ∧ acc' ≤ acc + 500 ∧ St (Know.of w) w' (memC bm bc L3 acc' :: cs) := by
          intro wz acc cs ha hs
          rw [hx1, ho1, ← vval_pending 1099511627776 ((n : Int) + 1) k' del vs]
          exact read_st hd.out (by omega) c3.ok c3.link (by have := Hlen.out; simp; omega) (by omega) hs
        have q23 : ∀ (wz : World), VersAt wz av vs → Calls Try.prog 40 #[.slice av n capv, .int .u64 1099511627776] wz fun e w' => e = .returned (.tuple #[.string x1, .bool o1]) ∧ Below wz.heap.size wz w' := by
          intro wz h
          rw [hx1, ho1, ← Hlen.out]
          exact valueRef_any _ _ h
        obtain ⟨old, hold⟩ : ∃ old, old = (getC L (d.chain 1)).n := ⟨_, rfl⟩
        rw [← hold] at e4 c5
        have ho01 : 0 ≤ old ∧ old < 18446744073709551616 := by rw [hold]; exact HL.out.ok _
        have Qr := Lib.hid qr
        have Qw := Lib.hid qw
        have E4 := Lib.hid e4
        have C5 := Lib.hid c5
        have Hmid := Lib.hid hmid
        have Q22 := Lib.hid q22
        have Q23 := Lib.hid q23
        clear qr qw e4 c5 hmid q22 q23 c3 e5 hx0 ho0 hx1 ho1 hk' hdel hr2 hold
        go_wp2_with fail
        refine (Qr.out _ _ _ _ _ HL.out (by omega) hs.b1).mono ?_
        clear hs kl
        rintro e w6 ⟨acc1, rfl, ha1, hs⟩
        have kl := hs.k2
        go_upto_region 15 with (fail)
        refine region_tail 7 (by kernel_rfl) (by as_aux_lemma => kernel_rfl) ?_
        simp only [List.take_succ_cons, List.take_zero, List.drop_succ_cons, List.drop_zero]
        repeat (go_big_quiet_step ((go_at_call 33; exact pure_of (Qw.out _))))
        refine wpQuiet_nil ?_
        intro w7 hb7
        have hs := hs.same hb7
        clear kl hb7
        go_wp2_with fail
        refine (newInstall_st (d := d) (ch := 1) (r := (n : Int) + 1) (key := ⟨#[]⟩) (v := k') (del := del) hs).mono ?_
        clear hs
        rintro e w8 ⟨b, rfl, hs⟩
        go_wp2
        go_loopw [18] (fun vj wr => ∃ (j acc' : Nat), j ≤ 3 ∧ vj = .int .i64 j ∧ acc' ≤ acc1 + 600 * j ∧ St (Know.of w) wr [inC b d 1 ((n : Int) + 1) ⟨#[]⟩ k' del (it (inStep d 1 ((n : Int) + 1) (valC k' del)) j (⟨0, 0⟩, L)).1, memC bm bc (it (inStep d 1 ((n : Int) + 1) (valC k' del)) j (⟨0, 0⟩, L)).2 acc', rowC (.slice av n capv) 69 3 n (verRow vs), blk bl (.cells #[.int .i64 d.th, .int .i64 d.sn, .int .i64 d.no, .int .i64 d.ch, .int .i64 d.re, .int .i64 d.fa, .int .u64 d.cl] 30)]) (fun v _ => 50 - (intOf v).toNat)
        case atStart => exact ⟨0, acc1, by omega, rfl, by omega, hs⟩
        case round =>
          clear hs
          obtain ⟨j, acc', hj, rfl, hacc', hs⟩ := hrel
          have q := inStep_st hd.out (by omega) (by omega) (by omega) hs
          rw [← it_succ (inStep d 1 ((n : Int) + 1) (valC k' del)) j (⟨0, 0⟩, L), in_pc (j + 1) (by omega)] at q
          clear hs
          by_cases h : j = 3
          · subst h
            rw [show decide (4 ≤ 3 + 1) = true by rfl] at q
            have Q := Lib.hid q
            clear q
            go_wp2_with fail
            refine (Q.out).mono ?_
            rintro e w9 ⟨rfl, hs⟩
            rw [show 3 + 1 = 4 by rfl, E4.out] at hs
            have hal := accTo_le 4 (it (inStep d 1 ((n : Int) + 1) (valC k' del)) 3 (⟨0, 0⟩, L)).1.pc acc'
            generalize accTo 4 (it (inStep d 1 ((n : Int) + 1) (valC k' del)) 3 (⟨0, 0⟩, L)).1.pc acc' = acc2 at *
            clear Q
            have kl := hs.tail.k2
            go_wp2_with fail
            refine (Q22.out _ _ _ (by omega) hs.b1).mono ?_
            clear hs kl
            rintro e w10 ⟨acc3, rfl, ha3, hs⟩
            go_wp2_with fail
            refine (calls_same hs (Q23.out _ (hs.b2.row_vers (by have := Hlen.out; omega)))).mono ?_
            clear hs
            rintro e w11 ⟨rfl, hs⟩
            have kl := hs.tail.k2
            have qo := fun wz (hy : ∃ x : Ext, wz = over w11 x) => inOld_any wz (blk_same (Pure.below hy) hs.tail.head)
            have Qo := Lib.hid qo
            clear qo
            go_upto_region 24 with (fail)
            refine region_tail 3 (by kernel_rfl) (by as_aux_lemma => kernel_rfl) ?_
            simp only [List.take_succ_cons, List.take_zero, List.drop_succ_cons, List.drop_zero]
            repeat (go_big_quiet_step ((go_at_call 42; exact pure_of_same (Qo.out _ ⟨_, rfl⟩))))
            refine wpQuiet_nil ?_
            intro w12 hb12
            have hs := hs.same hb12
            clear kl hb12 Qo
            go_wp2_with fail
            refine (newRestore_st (ch := 1) (t := old) hd.out (by omega) hs).mono ?_
            clear hs
            rintro e w13 ⟨b1, bi, bn, rfl, hs⟩
            go_wp2_with fail
            refine (restoreStep_st (G := inC b d 1 ((n : Int) + 1) ⟨#[]⟩ k' del ⟨4, old⟩ :: rowC (.slice av n capv) 69 3 n (verRow vs) :: blk bl (.cells #[.int .i64 d.th, .int .i64 d.sn, .int .i64 d.no, .int .i64 d.ch, .int .i64 d.re, .int .i64 d.fa, .int .u64 d.cl] 30) :: []) (by omega) hs).mono ?_
            clear hs
            rintro e w14 ⟨rfl, hs⟩
            have kl := hs.tail.k2
            go_wp2_with fail
            refine (Qr.out _ _ _ _ _ C5.out (by omega) hs).mono ?_
            clear hs kl
            rintro e w15 ⟨acc4, rfl, ha4, hs⟩
            have kl := hs.tail.k2
            go_wp2_with fail
            refine (peekChain_st (ch := 1) hd.out hch1.out C5.out.ok C5.out.link (by have := Hlen.out; have := hre'.out; omega) hs).mono ?_
            rw [Hlen.out]
            clear hs kl
            rintro e w16 ⟨va2, rfl, hs⟩
            obtain ⟨av2, capv2, rfl, _, _⟩ := hs.row_read
            have qs := same_vers (cap := capv2) (cap' := capv) w16 (hs.row_vers (by have := Hlen.out; omega)) (hs.b3.row_vers (by have := Hlen.out; omega))
            rw [Hlen.out] at qs
            have Qs := Lib.hid qs
            clear qs
            go_wp2_with fail
            refine (calls_same hs Qs.out).mono ?_
            clear hs
            rintro e w17 ⟨rfl, hs⟩
            go_wp2
            go_ret
            exact ⟨rfl, hs.below (Know.Le.refl _)⟩
          · rw [show decide (4 ≤ j + 1) = false by simp; omega] at q
            have Q := Lib.hid q
            have h50 : j < 50 := by omega
            clear q
            go_wp2_with fail
            refine (Q.out).mono ?_
            rintro e w9 ⟨rfl, hs⟩
            clear Q
            have hal := accTo_le 4 (it (inStep d 1 ((n : Int) + 1) (valC k' del)) j (⟨0, 0⟩, L)).1.pc acc'
            generalize accTo 4 (it (inStep d 1 ((n : Int) + 1) (valC k' del)) j (⟨0, 0⟩, L)).1.pc acc' = acc2 at *
            have kl := hs.tail.k2
            go_wp2_with fail
            refine (Qr.out _ _ _ _ _ (Hmid.out (j + 1) (by omega)) (by omega) hs.b1).mono ?_
            clear hs kl
            rintro e w10 ⟨acc3, rfl, ha3, hs⟩
            go_wp2
            go_roundw
            case rel => exact ⟨j + 1, acc3, by omega, by go_num, by omega, hs.b1⟩
            case measure => simp [intOf]; omega
end Go.Proofs.Ytfgjanponijkhaa
