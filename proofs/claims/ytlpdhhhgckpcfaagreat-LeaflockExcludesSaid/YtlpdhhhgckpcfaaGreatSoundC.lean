
/- blinktreecells.View: counters, chains. -/
import Derived.Test.YtlpdhhhgckpcfaaGreatSoundB
namespace Go.Proofs.YtlpdhhhgckpcfaaGreat
open Go.RowKit
set_option maxRecDepth 100000
/-- The counters, with nothing in progress. -/
structure CtOk (d : Cfg) (L : List Cel) : Prop where
  pub : (getC L 1).n = (getC L 2).n
  flo : (getC L 3).n ≤ (getC L 2).n
  nod : (getC L 4).n ≤ d.no
  chn : (getC L 5).n ≤ d.ch
  rcd : (getC L 6).n ≤ d.re
  gro : (getC L 7).n % 4 = 0
  snp : ∀ i : Int, 8 ≤ i → i < d.A → (getC L i).n = 0 ∨ (getC L 3).n ≤ (getC L i).n - 1
/-- The chains of the slots. -/
structure ChsOk (d : Cfg) (L : List Cel) (rs : List Int) : Prop where
  ok : ∀ r, r ∈ rs → 1 ≤ r ∧ r ≤ d.ch ∧ r ≤ (getC L 5).n ∧ ∃ vs, Linked d L (getC L (d.chain r)).n vs ∧ (vs.length : Int) ≤ d.re ∧ V9 (getC L 2).n vs
  nd : rs.Nodup
section
variable {K : Know} {w : World} {F : List Comp} {d : Cfg} {g : Nat} {L : List Cel} {t : List (List Nd)}
set_option maxHeartbeats 8000000 in
theorem counters_st (hd : d.Ok) (hL : CelsOk L) (hc : CtOk d L) (hg : K.map g = some (.cells (flat L).toArray 63)) (hl : L.length ≤ 1000000) (hs : St K w F) :
    Calls Tryz.prog 84 #[.agg #[.int .i64 (d).th, .int .i64 (d).sn, .int .i64 (d).no, .int .i64 (d).ch, .int .i64 (d).re, .int .i64 (d).fa, .int .u64 (d).cl, .slice (some ⟨g, 0, none⟩) L.length L.length]] w fun e w' => e = .returned (.bool true) ∧ St K w' F := by
  have hA := hd.A_bd
  have n1 := hd.no1
  have n2 := hd.no2
  have c1 := hd.ch1
  have c2 := hd.ch2
  have r1 := hd.re1
  have r2 := hd.re2
  have b7 := hL 7
  have b3 := hL 3
  have z1 : ((getC L 1).n != (getC L 2).n) = false := by simp [hc.pub]
  have z2 : ¬ ((getC L 2).n < (getC L 3).n) := by have := hc.flo; omega
  have z4 : ¬ (d.no < (getC L 4).n) := by have := hc.nod; omega
  have z5 : ¬ (d.ch < (getC L 5).n) := by have := hc.chn; omega
  have z6 : ¬ (d.re < (getC L 6).n) := by have := hc.rcd; omega
  have z7 : ((getC L 7).n.tmod 4 != 0) = false := by rw [Int.tmod_eq_emod_of_nonneg b7.1, hc.gro]; rfl
  have Hsn := Lib.hid hc.snp
  have HL := Lib.hid hL
  have QA := Lib.hid (fun w => refA_any d hd w)
  have hs := hs.made (.cells #[.int .i64 (d).th, .int .i64 (d).sn, .int .i64 (d).no, .int .i64 (d).ch, .int .i64 (d).re, .int .i64 (d).fa, .int .u64 (d).cl, .slice (some ⟨g, 0, none⟩) L.length L.length] 52)
  obtain ⟨bv, hbv⟩ : ∃ bv, bv = w.heap.size := ⟨_, rfl⟩
  have Q := Lib.hid (fun (i : Int) W cs (h : St K W cs) => viewAt_any (d := d) i W (vat_of hg hl h))
  generalize L.length = n at *
  clear hg hc hL
  go_enter Tryz.func84, Tryz.ntmps84
  go_upto_region 1 with (fail)
  rw [← hbv] at hs ⊢
  clear hbv
  have k0 := hs.k0
  obtain ⟨w1, hw1⟩ : ∃ w1, w1 = w.alloc (.cells #[.int .i64 (d).th, .int .i64 (d).sn, .int .i64 (d).no, .int .i64 (d).ch, .int .i64 (d).re, .int .i64 (d).fa, .int .u64 (d).cl, .slice (some ⟨g, 0, none⟩) n n] 52) := ⟨_, rfl⟩
  rw [← hw1] at hs k0 ⊢
  have Qy := Lib.hid (fun wz (hy : ∃ x : Ext, wz = over w1 x) (i : Int) => Q.out i wz _ (hs.same (Pure.below hy)))
  clear hw1
  refine region_pure (by kernel_rfl) (by kernel_rfl) ?_
  repeat (go_big_quiet_step ((go_at_call 83; exact pure_of (Qy.out _ ⟨_, rfl⟩ _))))
  refine wpQuiet_nil ?_
  intro w2 hb2
  have hs := hs.same hb2
  clear k0 hb2 Qy
  go_wp2
  go_loopw [3] (fun v wr => ∃ i : Nat, v = .int .i64 i ∧ 8 ≤ i ∧ (i : Int) ≤ d.A ∧ St K wr (blk bv (.cells #[.int .i64 (d).th, .int .i64 (d).sn, .int .i64 (d).no, .int .i64 (d).ch, .int .i64 (d).re, .int .i64 (d).fa, .int .u64 (d).cl, .slice (some ⟨g, 0, none⟩) n n] 52) :: F)) (fun v _ => d.A.toNat - (intOf v).toNat)
  case atStart => exact ⟨8, rfl, by omega, by omega, hs⟩
  case round =>
    clear hs
    obtain ⟨i, rfl, hi8, hiA, hs⟩ := hrel
    have k0 := hs.k0
    by_cases hin : (i : Int) < d.A
    · have hq := Hsn.out i (by omega) hin
      have q1 := Q.out i
      have q3 := Q.out 3
      have hb := HL.out i
      generalize getC L i = ci at *
      generalize getC L 3 = c3 at *
      obtain ⟨x, xk, xm⟩ := ci
      simp only at hq
      have Q1 := Lib.hid q1
      have Q3 := Lib.hid q3
      have Hb := Lib.hid hb
      clear q1 q3 hb
      go_wp2_with fail
      refine (calls_same hs (QA.out _)).mono ?_
      clear hs k0
      rintro e w3 ⟨rfl, hs⟩
      have k0 := hs.k0
      go_wp2_with fail
      refine (calls_same hs (Q1.out _ _ hs)).mono ?_
      clear hs k0
      rintro e w4 ⟨rfl, hs⟩
      have k0 := hs.k0
      by_cases hx : x = 0
      · subst hx
        go_wp2
        go_roundw
        case rel => exact ⟨i + 1, by go_num, by omega, by omega, hs⟩
        case measure => simp [intOf]; omega
      · have zx : (x != 0) = true := by simpa using hx
        have hx1 : IntKind.u64.wrap (x - 1) = x - 1 := by
          have h1 := Hb.out.1
          have h2 := Hb.out.2
          simp only at h1 h2
          rw [IntKind.wrap_u64]
          omega
        have hx2 : ¬ (x - 1 < c3.n) := by omega
        clear hx hq
        go_wp2_with fail
        refine (calls_same hs (Q3.out _ _ hs)).mono ?_
        clear hs k0
        rintro e w5 ⟨rfl, hs⟩
        go_wp2
        go_roundw
        case rel => exact ⟨i + 1, by go_num, by omega, by omega, hs⟩
        case measure => simp [intOf]; omega
    · go_wp2_with fail
      refine (calls_same hs (QA.out _)).mono ?_
      clear hs k0
      rintro e w3 ⟨rfl, hs⟩
      go_wp2
      go_ret
      exact ⟨rfl, hs.tail⟩
theorem TreeOk.slots_le (hd : d.Ok) (ht : TreeOk d L t) {l : List Nd} (h0 : t[0]? = some l) : (l.flatMap fun nd => nd.pg.sl).length ≤ 16777216 := by
  have hno2 := hd.no2
  have hfa2 := hd.fa2
  have hlen : l.length ≤ 4096 := by have := List.sum_le_of_mem' h0; have := ht.count; have := ht.n4; omega
  have hsl : ∀ nd, nd ∈ l → nd.pg.sl.length ≤ 4096 := fun nd hn => by have := (ht.nodes 0 l h0 nd hn).page.le; omega
  have htot : ∀ i, i ≤ l.length → slPos l i ≤ i * 4096 := by
    intro i
    induction i with
    | zero => intro _; exact Nat.le_refl _
    | succ i ih =>
      intro hi
      obtain ⟨a, ha⟩ : ∃ a, l[i]? = some a := ⟨_, List.getElem?_eq_getElem (by omega)⟩
      have := ih (by omega)
      have := hsl a (List.mem_of_getElem? ha)
      rw [slPos_succ ha]
      omega
  rw [← slPos_all]
  have := htot l.length (Nat.le_refl _)
  omega
set_option maxHeartbeats 8000000 in
theorem chains_st (hd : d.Ok) (hL : CelsOk L) (ht : TreeOk d L t) {l : List Nd} (h0 : t[0]? = some l) (hc : ChsOk d L ((l.flatMap fun nd => nd.pg.sl).map (·.r))) (hg : K.map g = some (.cells (flat L).toArray 63)) (hl : L.length ≤ 1000000) (hs : St K w F) :
    Calls Tryz.prog 85 #[.agg #[.int .i64 (d).th, .int .i64 (d).sn, .int .i64 (d).no, .int .i64 (d).ch, .int .i64 (d).re, .int .i64 (d).fa, .int .u64 (d).cl, .slice (some ⟨g, 0, none⟩) L.length L.length]] w fun e w' => e = .returned (.bool true) ∧ St K w' F := by
  have c1 := hd.ch1
  have c2 := hd.ch2
  have r2 := hd.re2
  have hs := hs.made (.cells #[.int .i64 (d).th, .int .i64 (d).sn, .int .i64 (d).no, .int .i64 (d).ch, .int .i64 (d).re, .int .i64 (d).fa, .int .u64 (d).cl, .slice (some ⟨g, 0, none⟩) L.length L.length] 52)
  obtain ⟨bv, hbv⟩ : ∃ bv, bv = w.heap.size := ⟨_, rfl⟩
  have Q := Lib.hid (fun (i : Int) W cs (h : St K W cs) => viewAt_any (d := d) i W (vat_of hg hl h))
  have QR := Lib.hid (fun W cs (h : St K W cs) => viewRefs_st hd ht h0 hg hl h)
  have Qch := Lib.hid (fun (r : Int) (h1 : 1 ≤ r ∧ r ≤ d.ch) w => refChain_any d hd r (by omega) (by omega) w)
  have Qvs := Lib.hid (fun (r : Int) (h1 : 1 ≤ r ∧ r ≤ d.ch) (vs : List Ver) (hlk : Linked d L (getC L (d.chain r)).n vs) (hn : (vs.length : Int) ≤ d.re) W cs (h : St K W cs) => viewChain_st hd h1 hlk hn hg hl h)
  have Hc := Lib.hid hc
  have hlen : (l.flatMap fun nd => nd.pg.sl).length = ((l.flatMap fun nd => nd.pg.sl).map (·.r)).length := (List.length_map ..).symm
  have hmm := ht.slots_le hd h0
  rw [hlen] at QR hmm
  generalize (l.flatMap fun nd => nd.pg.sl).map (·.r) = rs at *
  obtain ⟨m, hm⟩ : ∃ m, m = rs.length := ⟨_, rfl⟩
  rw [← hm] at QR hmm
  have Hm := Lib.hid hm
  generalize L.length = n at *
  clear hg hc hL ht h0 hlen hm
  go_enter Tryz.func85, Tryz.ntmps85
  go_wp2_with fail
  refine (QR.out _ _ hs).mono ?_
  rw [← hbv] at hs ⊢
  clear hs QR hbv
  rintro e w1 ⟨va, rfl, hs⟩
  obtain ⟨a, cap, rfl, _, _⟩ := hs.row_read
  go_wp2
  go_loopw [4] (fun v wr => ∃ i : Nat, v = .int .i64 i ∧ i ≤ m ∧ St K wr (rowC (.slice a m cap) 23 1 m (u64Row rs) :: blk bv (.cells #[.int .i64 (d).th, .int .i64 (d).sn, .int .i64 (d).no, .int .i64 (d).ch, .int .i64 (d).re, .int .i64 (d).fa, .int .u64 (d).cl, .slice (some ⟨g, 0, none⟩) n n] 52) :: F)) (fun v _ => m - (intOf v).toNat)
  case atStart => exact ⟨0, rfl, by omega, hs⟩
  case round =>
    clear hs
    obtain ⟨i, rfl, hi, hs⟩ := hrel
    by_cases him : i < m
    · obtain ⟨r, hr⟩ : ∃ r, rs[i]? = some r := ⟨_, List.getElem?_eq_getElem (by have := Hm.out; omega)⟩
      obtain ⟨hr1, hr2, hr5, vs, hlk, hvn, hv9⟩ := Hc.out.ok r (List.mem_of_getElem? hr)
      obtain ⟨ga, hga, c0⟩ := hs.row_at (show (u64Row rs)[i]? = some (.int .u64 r) by simp [u64Row, hr])
      subst hga
      have hch := chain_in hd hr1 hr2
      have hch0 : ¬ (d.chain r < 0) := by omega
      have hr5' : ¬ ((getC L 5).n < r) := by omega
      have QC := Lib.hid (fun w => Qch.out r ⟨hr1, hr2⟩ w)
      have QV := Lib.hid (fun W cs (h : St K W cs) => Qvs.out r ⟨hr1, hr2⟩ vs hlk hvn W cs h)
      have H9 := Lib.hid hv9
      have Hr := Lib.hid hr
      have kv := hs.k1
      have hvl : vs.length ≤ 1000000 := by omega
      clear hlk hv9 hr hch
      go_upto_region 5 with (fail)
      have Qy := Lib.hid (fun wz (hy : ∃ x : Ext, wz = over wr x) (i : Int) => Q.out i wz _ (hs.same (Pure.below hy)))
      refine region_pure (by kernel_rfl) (by kernel_rfl) ?_
      repeat (go_big_quiet_step (first | (go_at_call 123; exact pure_of (QC.out _)) | (go_at_call 83; exact pure_of (Qy.out _ ⟨_, rfl⟩ _))))
      refine wpQuiet_nil ?_
      intro w2 hb2
      have hs := hs.same hb2
      clear kv c0 hb2 Qy
      go_wp2
      go_loopw [5] (fun v wr => ∃ k : Nat, v = .int .i64 k ∧ k ≤ i ∧ St K wr (rowC (.slice (some ⟨ga, 0, none⟩) m cap) 23 1 m (u64Row rs) :: blk bv (.cells #[.int .i64 (d).th, .int .i64 (d).sn, .int .i64 (d).no, .int .i64 (d).ch, .int .i64 (d).re, .int .i64 (d).fa, .int .u64 (d).cl, .slice (some ⟨g, 0, none⟩) n n] 52) :: F)) (fun v _ => i - (intOf v).toNat)
      case atStart => exact ⟨0, rfl, by omega, hs⟩
      case round =>
        clear hs
        obtain ⟨k, rfl, hk, hs⟩ := hrel
        by_cases hki : k < i
        · obtain ⟨q, hq⟩ : ∃ q, rs[k]? = some q := ⟨_, List.getElem?_eq_getElem (by have := Hm.out; omega)⟩
          have c0 := hs.row_cell (show (u64Row rs)[i]? = some (.int .u64 r) by simp [u64Row, Hr.out])
          have c1 := hs.row_cell (show (u64Row rs)[k]? = some (.int .u64 q) by simp [u64Row, hq])
          have hne : (q == r) = false := by
            have hp := List.pairwise_iff_getElem.1 Hc.out.nd k i (List.getElem?_eq_some_iff.1 hq).1 (List.getElem?_eq_some_iff.1 Hr.out).1 hki
            rw [(List.getElem?_eq_some_iff.1 hq).2, (List.getElem?_eq_some_iff.1 Hr.out).2] at hp
            simpa using hp
          clear hq
          go_upto_region 10 with (fail)
          refine region_pure (by kernel_rfl) (by kernel_rfl) ?_
          repeat (go_big_quiet_step (fail))
          refine wpQuiet_nil ?_
          intro w3 hb3
          have hs := hs.same hb3
          clear c0 c1 hb3
          go_wp2
          go_roundw
          case rel => exact ⟨k + 1, by go_num, by omega, hs⟩
          case measure => simp [intOf]; omega
        · obtain rfl : k = i := by omega
          have c0 := hs.row_cell (show (u64Row rs)[k]? = some (.int .u64 r) by simp [u64Row, Hr.out])
          have kv := hs.k1
          go_upto_region 12 with (fail)
          refine region_tail 5 (by kernel_rfl) (by as_aux_lemma => kernel_rfl) ?_
          simp only [List.take_succ_cons, List.take_zero, List.drop_succ_cons, List.drop_zero]
          repeat (go_big_quiet_step (fail))
          refine wpQuiet_nil ?_
          intro w3 hb3
          have hs := hs.same hb3
          clear c0 kv hb3
          go_wp2_with fail
          refine (QV.out _ _ hs).mono ?_
          clear hs QV
          rintro e w4 ⟨vx, rfl, hs⟩
          obtain ⟨ax, cx, rfl, _, _⟩ := hs.row_read
          have hva := hs.row_vers (by omega)
          obtain ⟨q, hq⟩ : ∃ q, q = vs.length := ⟨_, rfl⟩
          have q9 := fun W (hb : Below w4.heap.size w4 W) => check9_any (cap := cx) W (hva.same hb) H9.out
          rw [← hq] at q9 hs hvl ⊢
          have Hq := Lib.hid hq
          have Q9 := Lib.hid (q9 w4 (Below.refl _ _))
          clear q9 hva hq
          go_wp2_with fail
          refine (calls_same hs Q9.out).mono ?_
          clear hs Q9
          rintro e w5 ⟨rfl, hs⟩
          go_wp2
          go_loopw [7] (fun v wr => ∃ j : Nat, v = .int .i64 j ∧ j ≤ q ∧ St K wr (rowC (.slice ax q cx) 186 3 q (verRow vs) :: rowC (.slice (some ⟨ga, 0, none⟩) m cap) 23 1 m (u64Row rs) :: blk bv (.cells #[.int .i64 (d).th, .int .i64 (d).sn, .int .i64 (d).no, .int .i64 (d).ch, .int .i64 (d).re, .int .i64 (d).fa, .int .u64 (d).cl, .slice (some ⟨g, 0, none⟩) n n] 52) :: F)) (fun v _ => q - (intOf v).toNat)
          case atStart => exact ⟨0, rfl, by omega, hs⟩
          case round =>
            clear hs
            obtain ⟨j, rfl, hj, hs⟩ := hrel
            by_cases hjq : j < q
            · obtain ⟨x, hx⟩ : ∃ x, vs[j]? = some x := ⟨_, List.getElem?_eq_getElem (by have := Hq.out; omega)⟩
              obtain ⟨x0, x1, x2⟩ := verRow_at vs j x hx
              obtain ⟨gx, hgx, cx0⟩ := hs.row_at x0
              subst hgx
              obtain ⟨s1, s2, _, _⟩ := H9.out j x hx
              have y1 : (x.st == 0) = false := by simp; omega
              have y2 : ¬ ((getC L 2).n < x.st) := by omega
              have kv := hs.k2
              clear x0 x1 x2 hx s1 s2
              go_upto_region 18 with (fail)
              have Qy := Lib.hid (fun wz (hy : ∃ x : Ext, wz = over wr x) (i : Int) => Q.out i wz _ (hs.same (Pure.below hy)))
              refine region_pure (by kernel_rfl) (by kernel_rfl) ?_
              repeat (go_big_quiet_step ((go_at_call 83; exact pure_of (Qy.out _ ⟨_, rfl⟩ _))))
              refine wpQuiet_nil ?_
              intro w6 hb6
              have hs := hs.same hb6
              clear kv cx0 hb6 Qy
              go_wp2
              go_roundw
              case rel => exact ⟨j + 1, by go_num, by omega, hs⟩
              case measure => simp [intOf]; omega
            · go_wp2
              go_roundw
              case rel => exact ⟨k + 1, by go_num, by omega, hs.tail⟩
              case measure => simp [intOf]; omega
    · go_wp2
      go_ret
      exact ⟨rfl, hs.tail.tail⟩
end
end Go.Proofs.YtlpdhhhgckpcfaaGreat
