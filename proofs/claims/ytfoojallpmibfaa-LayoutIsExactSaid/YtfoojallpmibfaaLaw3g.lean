/- The walk of LayoutIsExact. -/
import Derived.Test.YtfoojallpmibfaaLaw3a
import Derived.Test.YtfoojallpmibfaaMem
import Derived.Test.YtfoojallpmibfaaLaw5a
import Derived.Test.YtfoojallpmibfaaTail2
namespace Go.Proofs.Ytfoojallpmibfaa
open Go.RowKit
set_option maxRecDepth 100000

theorem infoInt : (Try.prog.info? 3).map (fun i => (i.zero, i.size, i.bytes)) = some (some (.int .i64 0), 1, 8) := by kernel_rfl

/-- The addresses that have been collected: all numbers below m, in order. -/
def upTo (m : Nat) : List Value := (List.range m).map (fun (k : Nat) => Value.int .i64 (k : Int))
theorem upTo_length (m : Nat) : (upTo m).length = m := by simp [upTo]
theorem upTo_add (m n : Nat) : upTo (m + n) = upTo m ++ (List.range n).map (fun (k : Nat) => Value.int .i64 ((m + k : Nat) : Int)) := by
  unfold upTo
  rw [List.range_add, List.map_append, List.map_map]
  rfl
theorem upTo_one (m : Nat) : upTo (m + 1) = upTo m ++ [.int .i64 (m : Int)] := by rw [upTo_add]; simp

theorem cells_new (w : World) (xs : List Value) (T : TypeId) : ∀ (j : Nat) (u : Value), xs[j]? = some u → (w.alloc (.cells xs.toArray T)).cell? ((⟨w.heap.size, 0, none⟩ : Addr).add j) = some u := by
  intro j u h
  have e : ((⟨w.heap.size, 0, none⟩ : Addr).add j) = ⟨w.heap.size, j, none⟩ := by
    unfold Addr.add
    split
    · rename_i h0; rw [h0]
    · simp
  rw [e, blk_cell (blk_alloc w (.cells xs.toArray T))]
  simpa using h

/-- What the law has collected so far, and the two configurations that it reads. -/
structure Coll (w0 w : World) (b1 b2 : Nat) (c1 c2 : Array Value) (v : Value) (m : Nat) : Prop where
  own : w.ownsRow w0.heap.size 3 1 v m (upTo m)
  one : w.heap[b1]? = some (.cells c1 24)
  two : w.heap[b2]? = some (.cells c2 27)
  low : Below w0.heap.size w0 w

theorem Coll.same {w0 w w' : World} {b1 b2 : Nat} {c1 c2 : Array Value} {v : Value} {m : Nat} (h : Coll w0 w b1 b2 c1 c2 v m) (hb : Below w.heap.size w w') : Coll w0 w' b1 b2 c1 c2 v m :=
  ⟨own_same h.own hb, blk_same hb h.one, blk_same hb h.two, h.low.trans (hb.mono h.low.size)⟩

/-- Behind an append. -/
theorem Coll.grown {w0 w w' : World} {b1 b2 : Nat} {c1 c2 : Array Value} {v v' : Value} {m n : Nat} {xs : List Value} (h : Coll w0 w b1 b2 c1 c2 v m) (hown : w'.ownsRow w0.heap.size 3 1 v' n xs) (hx : xs = upTo n) (hg : w.grownBy w' v.ownBlock) : Coll w0 w' b1 b2 c1 c2 v' n := by
  have hk : ∀ (b : Nat) (cs : Array Value) (T : TypeId), T ≠ 3 → w.heap[b]? = some (.cells cs T) → w'.heap[b]? = some (.cells cs T) := by
    intro b cs T hT hb
    rw [hg.block b (blk_lt hb) (fun e => ?_)]
    · exact hb
    · obtain ⟨_, cur, hcur⟩ := own_block h.own b e.symm
      exact blk_ne hb hcur hT rfl
  subst hx
  exact ⟨hown, hk _ _ _ (by decide) h.one, hk _ _ _ (by decide) h.two, h.low.grown hg h.low.size (fun q hq => (own_block h.own q hq).1)⟩

set_option maxHeartbeats 4000000 in
theorem layoutIsExact_walk (c : Cfg) (h0 : 0 ≤ c.cl) (w : World) : Calls Try.prog 5 #[.agg #[.int .i64 c.th, .int .i64 c.sn, .int .i64 c.no, .int .i64 c.ch, .int .i64 c.re, .int .i64 c.fa, .int .u64 c.cl]] w fun e w' => e = .returned (.bool true) ∧ Below w.heap.size w w' := by
  obtain ⟨TH, SN, NO, CH, RE, FA, cl, hs, hd, bnd⟩ : ∃ (TH SN NO CH RE FA : Nat) (cl : Int), (∀ w, Calls Try.prog 14 #[.agg #[.int .i64 c.th, .int .i64 c.sn, .int .i64 c.no, .int .i64 c.ch, .int .i64 c.re, .int .i64 c.fa, .int .u64 c.cl]] w fun e w' => e = .returned (.agg #[.int .i64 (TH : Int), .int .i64 (SN : Int), .int .i64 (NO : Int), .int .i64 (CH : Int), .int .i64 (RE : Int), .int .i64 (FA : Int), .int .u64 cl]) ∧ Below w.heap.size w w') ∧ Cfg.Ok ⟨(TH : Int), (SN : Int), (NO : Int), (CH : Int), (RE : Int), (FA : Int), cl⟩ ∧ TH ≤ 6 ∧ SN ≤ 8 ∧ NO ≤ 12 ∧ CH ≤ 20 ∧ RE ≤ 20 ∧ FA ≤ 9 := by
    have e1 : ((1 + c.th % 6).toNat : Int) = 1 + c.th % 6 := Int.toNat_of_nonneg (by omega)
    have e2 : ((1 + c.sn % 8).toNat : Int) = 1 + c.sn % 8 := Int.toNat_of_nonneg (by omega)
    have e3 : ((1 + c.no % 12).toNat : Int) = 1 + c.no % 12 := Int.toNat_of_nonneg (by omega)
    have e4 : ((1 + c.ch % 20).toNat : Int) = 1 + c.ch % 20 := Int.toNat_of_nonneg (by omega)
    have e5 : ((1 + c.re % 20).toNat : Int) = 1 + c.re % 20 := Int.toNat_of_nonneg (by omega)
    have e6 : ((4 + c.fa % 6).toNat : Int) = 4 + c.fa % 6 := Int.toNat_of_nonneg (by omega)
    refine ⟨(1 + c.th % 6).toNat, (1 + c.sn % 8).toNat, (1 + c.no % 12).toNat, (1 + c.ch % 20).toNat, (1 + c.re % 20).toNat, (4 + c.fa % 6).toNat, 1 + c.cl % 1000, ?_, ?_, ?_⟩
    case refine_1 => rw [e1, e2, e3, e4, e5, e6]; exact small_any c h0
    case refine_2 => rw [e1, e2, e3, e4, e5, e6]; exact small_ok c
    case refine_3 => omega
  obtain ⟨b1, b2, b3, b4, b5, b6⟩ := bnd
  have t1 := hd.th1; have s1 := hd.sn1; have n1 := hd.no1; have c1 := hd.ch1; have r1 := hd.re1; have f1 := hd.fa1
  simp only at t1 s1 n1 c1 r1 f1
  have m2 : TH * SN ≤ 6 * 8 := Nat.mul_le_mul b1 b2
  have m4 : NO * (FA + 4) ≤ 12 * 13 := Nat.mul_le_mul b3 (by omega)
  obtain ⟨M, hM, hcells, hM1, hM2⟩ : ∃ M : Nat, M = 8 + TH * SN + NO * (FA + 4) + CH + 3 * RE ∧ (∀ w, Calls Try.prog 28 #[.agg #[.int .i64 (TH : Int), .int .i64 (SN : Int), .int .i64 (NO : Int), .int .i64 (CH : Int), .int .i64 (RE : Int), .int .i64 (FA : Int), .int .u64 cl]] w fun e w' => e = .returned (.int .i64 (M : Int)) ∧ Below w.heap.size w w') ∧ 1 ≤ M ∧ M ≤ 5000 := by
    refine ⟨_, rfl, fun w => ?_, by omega, by omega⟩
    have := cells_any ⟨(TH : Int), (SN : Int), (NO : Int), (CH : Int), (RE : Int), (FA : Int), cl⟩ hd w
    have e : Cfg.cells ⟨(TH : Int), (SN : Int), (NO : Int), (CH : Int), (RE : Int), (FA : Int), cl⟩ = ((8 + TH * SN + NO * (FA + 4) + CH + 3 * RE : Nat) : Int) := by
      simp only [Cfg.cells, Cfg.C, Cfg.B, Cfg.A]
      simp
    rw [e] at this
    exact this
  have hd1 : decide ((M : Int) < 1) = false := decide_eq_false (by omega)
  have hd2 : decide (5000 < (M : Int)) = false := decide_eq_false (by omega)
  have HM := Lib.hid hM
  clear hM
  go_enter Try.func5, Try.ntmps5
  go_wp2_with fail
  refine (hs _).mono ?_
  rintro e w1 ⟨rfl, hb1⟩
  go_wp2_with fail
  refine (new_yes ⟨(TH : Int), (SN : Int), (NO : Int), (CH : Int), (RE : Int), (FA : Int), cl⟩ hd _).mono ?_
  rintro e w2 ⟨rfl, hb2⟩
  obtain ⟨W, hW⟩ : ∃ W, W = w2.alloc (.cells #[.int .i64 (TH : Int), .int .i64 (SN : Int), .int .i64 (NO : Int), .int .i64 (CH : Int), .int .i64 (RE : Int), .int .i64 (FA : Int), .int .u64 cl] 27) := ⟨_, rfl⟩
  have A1 : W.heap[w1.heap.size]? = some (.cells #[.int .i64 (TH : Int), .int .i64 (SN : Int), .int .i64 (NO : Int), .int .i64 (CH : Int), .int .i64 (RE : Int), .int .i64 (FA : Int), .int .u64 cl] 24) := by rw [hW]; exact blk_old (blk_same hb2 (blk_alloc w1 _)) _
  have A2 : W.heap[w2.heap.size]? = some (.cells #[.int .i64 (TH : Int), .int .i64 (SN : Int), .int .i64 (NO : Int), .int .i64 (CH : Int), .int .i64 (RE : Int), .int .i64 (FA : Int), .int .u64 cl] 27) := by rw [hW]; exact blk_alloc w2 _
  have hB : Below w.heap.size w W := by
    have z1 := hb1.size
    have z2 := hb2.size
    simp only [World.size_alloc] at z1 z2
    rw [hW]
    exact ((((Below.refl _ _).alloc (Nat.le_refl _) _).trans (hb1.mono (by simp))).alloc (by omega) _).trans (hb2.mono (by simp; omega)) |>.alloc (by omega) _
  go_upto_region 3 with (fail)
  rw [← hW]
  clear hW hb1 hb2 hs
  have k1 := blk_cell A1
  have k2 := blk_cell A2
  refine wp_region_pure_seq ?_
  repeat (go_big_quiet_step (first | (go_at_call 16; exact pure_of (awake_any _)) | (go_at_call 28; exact pure_of (hcells _))))
  refine wpQuiet_nil ?_
  intro w3 hb3
  have C1 := blk_same hb3 A1
  have C2 := blk_same hb3 A2
  have hB3 := hB.trans (hb3.mono hB.size)
  clear hb3 A1 A2 hB k1 k2
  go_upto_region 5 with (fail)
  have k1 := blk_cell C1
  have k2 := blk_cell C2
  refine region_tail 16 (by kernel_rfl) (by as_aux_lemma => kernel_rfl) ?_
  simp only [List.take_succ_cons, List.take_zero, List.drop_succ_cons, List.drop_zero]
  repeat (go_big_quiet_step (first | (go_at_call 30; exact pure_of (root_any ⟨(TH : Int), (SN : Int), (NO : Int), (CH : Int), (RE : Int), (FA : Int), cl⟩ _)) | (go_at_call 31; exact pure_of (allocated_any ⟨(TH : Int), (SN : Int), (NO : Int), (CH : Int), (RE : Int), (FA : Int), cl⟩ _)) | (go_at_call 32; exact pure_of (published_any ⟨(TH : Int), (SN : Int), (NO : Int), (CH : Int), (RE : Int), (FA : Int), cl⟩ _)) | (go_at_call 33; exact pure_of (floor_any ⟨(TH : Int), (SN : Int), (NO : Int), (CH : Int), (RE : Int), (FA : Int), cl⟩ _)) | (go_at_call 34; exact pure_of (nodes_any ⟨(TH : Int), (SN : Int), (NO : Int), (CH : Int), (RE : Int), (FA : Int), cl⟩ _)) | (go_at_call 35; exact pure_of (chains_any ⟨(TH : Int), (SN : Int), (NO : Int), (CH : Int), (RE : Int), (FA : Int), cl⟩ _)) | (go_at_call 36; exact pure_of (records_any ⟨(TH : Int), (SN : Int), (NO : Int), (CH : Int), (RE : Int), (FA : Int), cl⟩ _)) | (go_at_call 37; exact pure_of (grow_any ⟨(TH : Int), (SN : Int), (NO : Int), (CH : Int), (RE : Int), (FA : Int), cl⟩ _))))
  refine wpQuiet_nil ?_
  intro w4 hb4
  clear k1 k2
  have C1' := blk_old (blk_same hb4 C1) (.cells #[.int .i64 0, .int .i64 1, .int .i64 2, .int .i64 3, .int .i64 4, .int .i64 5, .int .i64 6, .int .i64 7] 3)
  have C2' := blk_old (blk_same hb4 C2) (.cells #[.int .i64 0, .int .i64 1, .int .i64 2, .int .i64 3, .int .i64 4, .int .i64 5, .int .i64 6, .int .i64 7] 3)
  have hG := blk_alloc w4 (.cells #[.int .i64 0, .int .i64 1, .int .i64 2, .int .i64 3, .int .i64 4, .int .i64 5, .int .i64 6, .int .i64 7] 3)
  have hB4 := hB3.trans (hb4.mono hB3.size)
  have hC0 : Coll w (w4.alloc (.cells #[.int .i64 0, .int .i64 1, .int .i64 2, .int .i64 3, .int .i64 4, .int .i64 5, .int .i64 6, .int .i64 7] 3)) w1.heap.size w2.heap.size #[.int .i64 (TH : Int), .int .i64 (SN : Int), .int .i64 (NO : Int), .int .i64 (CH : Int), .int .i64 (RE : Int), .int .i64 (FA : Int), .int .u64 cl] #[.int .i64 (TH : Int), .int .i64 (SN : Int), .int .i64 (NO : Int), .int .i64 (CH : Int), .int .i64 (RE : Int), .int .i64 (FA : Int), .int .u64 cl] (.slice (some ⟨w4.heap.size, 0, none⟩) 8 8) 8 :=
    ⟨⟨by simp [upTo], .inr ⟨_, 8, _, rfl, hB4.size, hG, by omega, by unfold maxLen; omega, rfl, rfl⟩⟩, C1', C2', hB4.alloc hB4.size _⟩
  clear C1' C2' hG hB4 hb4 hB3 C1 C2
  obtain ⟨i0, hi0, hz0, hz1, hz2⟩ := info_parts infoInt
  go_wp2
  go_loopw [6, 7] (fun v vt wr => ∃ t : Nat, t ≤ TH ∧ vt = .int .i64 t ∧ Coll w wr w1.heap.size w2.heap.size #[.int .i64 (TH : Int), .int .i64 (SN : Int), .int .i64 (NO : Int), .int .i64 (CH : Int), .int .i64 (RE : Int), .int .i64 (FA : Int), .int .u64 cl] #[.int .i64 (TH : Int), .int .i64 (SN : Int), .int .i64 (NO : Int), .int .i64 (CH : Int), .int .i64 (RE : Int), .int .i64 (FA : Int), .int .u64 cl] v (8 + t * SN)) (fun _ vt _ => TH - (intOf vt).toNat)
  case atStart => exact ⟨0, by omega, rfl, by simpa using hC0⟩
  case round =>
    clear hC0
    obtain ⟨t, ht, rfl, hC⟩ := hrel
    have k1 := blk_cell hC.one
    by_cases hlt : t < TH
    · obtain ⟨wo, rfl⟩ : ∃ wo : World, wo = wr := ⟨_, rfl⟩
      go_wp2
      clear k1
      go_loopw [6, 8] (fun v vj wr => ∃ j : Nat, j ≤ SN ∧ vj = .int .i64 j ∧ Coll w wr w1.heap.size w2.heap.size #[.int .i64 (TH : Int), .int .i64 (SN : Int), .int .i64 (NO : Int), .int .i64 (CH : Int), .int .i64 (RE : Int), .int .i64 (FA : Int), .int .u64 cl] #[.int .i64 (TH : Int), .int .i64 (SN : Int), .int .i64 (NO : Int), .int .i64 (CH : Int), .int .i64 (RE : Int), .int .i64 (FA : Int), .int .u64 cl] v (8 + t * SN + j)) (fun _ vj _ => SN - (intOf vj).toNat)
      case atStart => exact ⟨0, by omega, rfl, hC⟩
      case round =>
        clear hC
        obtain ⟨j, hj, rfl, hC⟩ := hrel
        have k1 := blk_cell hC.one
        have k2 := blk_cell hC.two
        by_cases hltj : j < SN
        · have hts : t * SN + SN ≤ TH * SN := by rw [← Nat.succ_mul]; exact Nat.mul_le_mul_right _ hlt
          have q : ∀ w, Calls Try.prog 19 #[.agg #[.int .i64 (TH : Int), .int .i64 (SN : Int), .int .i64 (NO : Int), .int .i64 (CH : Int), .int .i64 (RE : Int), .int .i64 (FA : Int), .int .u64 cl], .int .i64 (t : Int), .int .i64 (j : Int)] w fun e w' => e = .returned (.int .i64 ((8 + t * SN + j : Nat) : Int)) ∧ Below w.heap.size w w' := by
            intro w
            have := snapshot_any ⟨(TH : Int), (SN : Int), (NO : Int), (CH : Int), (RE : Int), (FA : Int), cl⟩ hd t j w
            have e : Cfg.snap ⟨(TH : Int), (SN : Int), (NO : Int), (CH : Int), (RE : Int), (FA : Int), cl⟩ t j = ((8 + t * SN + j : Nat) : Int) := by
              unfold Cfg.snap
              rw [if_pos (by simp only; omega)]
              simp
            rw [e] at this
            exact this
          have Q := Lib.hid q
          clear q
          obtain ⟨MM, hMM⟩ : ∃ MM, MM = 8 + t * SN + j := ⟨_, rfl⟩
          rw [← hMM] at Q hC
          have hMb : MM ≤ 5000 := by omega
          have HMM := Lib.hid hMM
          clear hMM hts
          go_wp2_with fail
          refine (Q.out _).mono ?_
          rintro e w5 ⟨rfl, hb5⟩
          have hC2 := (hC.same hb5).same (Below.alloc (Below.refl w5.heap.size w5) (Nat.le_refl _) (.cells #[.int .i64 (MM : Int)] 3))
          clear hC hb5 k1 k2
          go_wp2_with (at_builtin; refine wpList_append_own _ rfl _ _ 42 rfl w.heap.size 3 i0 (.int .i64 0) 1 8 Try.underlying42 hi0 hz0 hz1 hz2 rfl (by decide) _ MM _ rfl hC2.own ⟨w5.heap.size, 0, none⟩ 1 1 [.int .i64 ((MM : Nat) : Int)] rfl rfl ?c1 ?c2 ?c3 ?c4 ?c5 ?_)
          case c1 => exact cell_one_new _ _ _
          case c2 => intro u hu; simp at hu; subst hu; rfl
          case c3 => unfold maxLen; omega
          case c4 => omega
          case c5 => exact hC2.low.size
          intro v' w' hown' hgrow _
          have hC3 := hC2.grown hown' (upTo_one MM).symm hgrow
          clear hC2 hown' hgrow
          go_wp2
          go_roundw
          case rel => exact ⟨j + 1, by omega, by go_num, by rw [show 8 + t * SN + (j + 1) = MM + 1 by rw [HMM.out]; omega]; exact hC3⟩
          case measure => simp [intOf]; omega
        · obtain rfl : j = SN := by omega
          go_wp2
          go_roundw
          case rel => exact ⟨t + 1, by omega, by go_num, by rw [show 8 + (t + 1) * j = 8 + t * j + j by rw [Nat.succ_mul]; omega]; exact hC⟩
          case measure => simp [intOf]; omega
    · obtain rfl : t = TH := by omega
      obtain ⟨wa, rfl⟩ : ∃ wa : World, wa = wr := ⟨_, rfl⟩
      obtain ⟨A, hA⟩ : ∃ A, A = 8 + t * SN := ⟨_, rfl⟩
      rw [← hA] at hC
      have hAb : A ≤ 56 := by omega
      have hAc : Cfg.A ⟨(t : Int), (SN : Int), (NO : Int), (CH : Int), (RE : Int), (FA : Int), cl⟩ = (A : Int) := by rw [hA]; simp [Cfg.A]
      have HA := Lib.hid hA
      clear hA hlt
      go_wp2
      clear k1
      go_loopw [6, 9] (fun v vn wr => ∃ n : Nat, n ≤ NO ∧ vn = .int .u64 ((n : Int) + 1) ∧ Coll w wr w1.heap.size w2.heap.size #[.int .i64 (t : Int), .int .i64 (SN : Int), .int .i64 (NO : Int), .int .i64 (CH : Int), .int .i64 (RE : Int), .int .i64 (FA : Int), .int .u64 cl] #[.int .i64 (t : Int), .int .i64 (SN : Int), .int .i64 (NO : Int), .int .i64 (CH : Int), .int .i64 (RE : Int), .int .i64 (FA : Int), .int .u64 cl] v (A + n * (FA + 4))) (fun _ vn _ => NO + 1 - (intOf vn).toNat)
      case atStart => exact ⟨0, by omega, by simp, by simpa using hC⟩
      case round =>
        clear hC
        obtain ⟨n, hn, rfl, hC⟩ := hrel
        have k1 := blk_cell hC.one
        by_cases hlt : n < NO
        · have hns : n * (FA + 4) + (FA + 4) ≤ NO * (FA + 4) := by rw [← Nat.succ_mul]; exact Nat.mul_le_mul_right _ hlt
          obtain ⟨MM, hMM⟩ : ∃ MM, MM = A + n * (FA + 4) := ⟨_, rfl⟩
          have hnode : ∀ k : Int, Cfg.node ⟨(t : Int), (SN : Int), (NO : Int), (CH : Int), (RE : Int), (FA : Int), cl⟩ ((n : Int) + 1) k = (MM : Int) + k := by
            intro k
            unfold Cfg.node
            rw [if_pos (by simp only; omega), hAc, hMM]
            simp
          rw [← hMM] at hC
          have hMb : MM + 20 ≤ 5000 := by omega
          obtain ⟨wb, rfl⟩ : ∃ wb : World, wb = wr := ⟨_, rfl⟩
          have HMM := Lib.hid hMM
          clear hMM hns
          have k2 := blk_cell hC.two
          have q0 : ∀ w, Calls Try.prog 18 #[.agg #[.int .i64 (t : Int), .int .i64 (SN : Int), .int .i64 (NO : Int), .int .i64 (CH : Int), .int .i64 (RE : Int), .int .i64 (FA : Int), .int .u64 cl], .int .u64 ((n : Int) + 1)] w fun e w' => e = .returned (.int .i64 ((MM : Int))) ∧ Below w.heap.size w w' := by
            intro w
            have := latch_any ⟨(t : Int), (SN : Int), (NO : Int), (CH : Int), (RE : Int), (FA : Int), cl⟩ hd ((n : Int) + 1) (by omega) (by omega) w
            rw [hnode 0] at this
            simpa using this
          have q1 : ∀ w, Calls Try.prog 20 #[.agg #[.int .i64 (t : Int), .int .i64 (SN : Int), .int .i64 (NO : Int), .int .i64 (CH : Int), .int .i64 (RE : Int), .int .i64 (FA : Int), .int .u64 cl], .int .u64 ((n : Int) + 1)] w fun e w' => e = .returned (.int .i64 ((MM : Int) + 1)) ∧ Below w.heap.size w w' := by
            intro w
            have := head_any ⟨(t : Int), (SN : Int), (NO : Int), (CH : Int), (RE : Int), (FA : Int), cl⟩ hd ((n : Int) + 1) (by omega) (by omega) w
            rw [hnode 1] at this
            simpa using this
          have q2 : ∀ w, Calls Try.prog 21 #[.agg #[.int .i64 (t : Int), .int .i64 (SN : Int), .int .i64 (NO : Int), .int .i64 (CH : Int), .int .i64 (RE : Int), .int .i64 (FA : Int), .int .u64 cl], .int .u64 ((n : Int) + 1)] w fun e w' => e = .returned (.int .i64 ((MM : Int) + 2)) ∧ Below w.heap.size w w' := by
            intro w
            have := high_any ⟨(t : Int), (SN : Int), (NO : Int), (CH : Int), (RE : Int), (FA : Int), cl⟩ hd ((n : Int) + 1) (by omega) (by omega) w
            rw [hnode 2] at this
            simpa using this
          have q3 : ∀ w, Calls Try.prog 22 #[.agg #[.int .i64 (t : Int), .int .i64 (SN : Int), .int .i64 (NO : Int), .int .i64 (CH : Int), .int .i64 (RE : Int), .int .i64 (FA : Int), .int .u64 cl], .int .u64 ((n : Int) + 1)] w fun e w' => e = .returned (.int .i64 ((MM : Int) + 3)) ∧ Below w.heap.size w w' := by
            intro w
            have := right_any ⟨(t : Int), (SN : Int), (NO : Int), (CH : Int), (RE : Int), (FA : Int), cl⟩ hd ((n : Int) + 1) (by omega) (by omega) w
            rw [hnode 3] at this
            simpa using this
          have Q0 := Lib.hid q0; have Q1 := Lib.hid q1; have Q2 := Lib.hid q2; have Q3 := Lib.hid q3
          clear q0 q1 q2 q3
          go_upto_region 16 with (fail)
          refine region_tail_move _ 12 rfl rfl (by kernel_rfl) (by as_aux_lemma => kernel_rfl) (fun _ _ _ _ h => h) ?_
          simp only [List.take_succ_cons, List.take_zero, List.drop_succ_cons, List.drop_zero, Act.put, List.setIfInBounds_toArray, List.set_cons_zero, List.set_cons_succ, Act.eval]
          repeat (go_big_quiet_step (first | (go_at_call 18; exact pure_of (Q0.out _)) | (go_at_call 20; exact pure_of (Q1.out _)) | (go_at_call 21; exact pure_of (Q2.out _)) | (go_at_call 22; exact pure_of (Q3.out _))))
          refine wpQuiet_nil ?_
          intro w5 hb5
          have hC2 := (hC.same hb5).same (Below.alloc (Below.refl w5.heap.size w5) (Nat.le_refl _) (.cells [.int .i64 (MM : Int), .int .i64 ((MM : Int) + 1), .int .i64 ((MM : Int) + 2), .int .i64 ((MM : Int) + 3)].toArray 3))
          clear hC hb5 k1 k2
          go_wp2_with (at_builtin; refine wpList_append_own _ rfl _ _ 42 rfl w.heap.size 3 i0 (.int .i64 0) 1 8 Try.underlying42 hi0 hz0 hz1 hz2 rfl (by decide) _ MM _ rfl hC2.own ⟨w5.heap.size, 0, none⟩ 4 4 [.int .i64 (MM : Int), .int .i64 ((MM : Int) + 1), .int .i64 ((MM : Int) + 2), .int .i64 ((MM : Int) + 3)] rfl rfl ?c1 ?c2 ?c3 ?c4 ?c5 ?_)
          case c1 => exact cells_new w5 [.int .i64 (MM : Int), .int .i64 ((MM : Int) + 1), .int .i64 ((MM : Int) + 2), .int .i64 ((MM : Int) + 3)] _
          case c2 => intro u hu; simp at hu; rcases hu with rfl | rfl | rfl | rfl <;> rfl
          case c3 => unfold maxLen; omega
          case c4 => omega
          case c5 => exact hC2.low.size
          intro v' w' hown' hgrow _
          have hC3 := hC2.grown hown' (by rw [upTo_add]; simp [List.range_succ]) hgrow
          clear hC2 hown' hgrow
          go_wp2
          go_loopw [6, 10] (fun v vi wr => ∃ i : Nat, i ≤ FA ∧ vi = .int .i64 i ∧ Coll w wr w1.heap.size w2.heap.size #[.int .i64 (t : Int), .int .i64 (SN : Int), .int .i64 (NO : Int), .int .i64 (CH : Int), .int .i64 (RE : Int), .int .i64 (FA : Int), .int .u64 cl] #[.int .i64 (t : Int), .int .i64 (SN : Int), .int .i64 (NO : Int), .int .i64 (CH : Int), .int .i64 (RE : Int), .int .i64 (FA : Int), .int .u64 cl] v (MM + 4 + i)) (fun _ vi _ => FA - (intOf vi).toNat)
          case atStart => exact ⟨0, by omega, rfl, hC3⟩
          case round =>
            clear hC3
            obtain ⟨i, hi, rfl, hC⟩ := hrel
            have k1 := blk_cell hC.one
            have k2 := blk_cell hC.two
            by_cases hlti : i < FA
            · have q : ∀ w, Calls Try.prog 23 #[.agg #[.int .i64 (t : Int), .int .i64 (SN : Int), .int .i64 (NO : Int), .int .i64 (CH : Int), .int .i64 (RE : Int), .int .i64 (FA : Int), .int .u64 cl], .int .u64 ((n : Int) + 1), .int .i64 (i : Int)] w fun e w' => e = .returned (.int .i64 ((MM + 4 + i : Nat) : Int)) ∧ Below w.heap.size w w' := by
                intro w
                have := slot_any ⟨(t : Int), (SN : Int), (NO : Int), (CH : Int), (RE : Int), (FA : Int), cl⟩ hd ((n : Int) + 1) i (by omega) (by omega) w
                rw [show Cfg.slot ⟨(t : Int), (SN : Int), (NO : Int), (CH : Int), (RE : Int), (FA : Int), cl⟩ ((n : Int) + 1) i = ((MM + 4 + i : Nat) : Int) by unfold Cfg.slot; rw [if_pos (by simp only; omega), hnode]; simp; omega] at this
                exact this
              have Q := Lib.hid q
              clear q
              obtain ⟨MI, hMI⟩ : ∃ MI, MI = MM + 4 + i := ⟨_, rfl⟩
              rw [← hMI] at Q hC
              have hMIb : MI ≤ 5000 := by omega
              have HMI := Lib.hid hMI
              clear hMI
              go_wp2_with fail
              refine (Q.out _).mono ?_
              rintro e w5 ⟨rfl, hb5⟩
              have hC2 := (hC.same hb5).same (Below.alloc (Below.refl w5.heap.size w5) (Nat.le_refl _) (.cells #[.int .i64 (MI : Int)] 3))
              clear hC hb5 k1 k2
              go_wp2_with (at_builtin; refine wpList_append_own _ rfl _ _ 42 rfl w.heap.size 3 i0 (.int .i64 0) 1 8 Try.underlying42 hi0 hz0 hz1 hz2 rfl (by decide) _ MI _ rfl hC2.own ⟨w5.heap.size, 0, none⟩ 1 1 [.int .i64 (MI : Int)] rfl rfl ?c1 ?c2 ?c3 ?c4 ?c5 ?_)
              case c1 => exact cells_new w5 [.int .i64 (MI : Int)] _
              case c2 => intro u hu; simp at hu; subst hu; rfl
              case c3 => unfold maxLen; omega
              case c4 => omega
              case c5 => exact hC2.low.size
              intro v' w' hown' hgrow _
              have hC3 := hC2.grown hown' (upTo_one MI).symm hgrow
              clear hC2 hown' hgrow
              go_wp2
              go_roundw
              case rel => exact ⟨i + 1, by omega, by go_num, by rw [show MM + 4 + (i + 1) = MI + 1 by rw [HMI.out]; omega]; exact hC3⟩
              case measure => simp [intOf]; omega
            · obtain rfl : i = FA := by omega
              go_wp2
              go_roundw
              case rel => exact ⟨n + 1, by omega, by go_num, by rw [show A + (n + 1) * (i + 4) = MM + 4 + i by rw [HMM.out, Nat.succ_mul]; omega]; exact hC⟩
              case measure => simp [intOf]; omega
        · obtain rfl : n = NO := by omega
          obtain ⟨wb, rfl⟩ : ∃ wb : World, wb = wr := ⟨_, rfl⟩
          obtain ⟨Bv, hBv⟩ : ∃ Bv, Bv = A + n * (FA + 4) := ⟨_, rfl⟩
          rw [← hBv] at hC
          have hBb : Bv ≤ 212 := by omega
          have hBc : Cfg.B ⟨(t : Int), (SN : Int), (n : Int), (CH : Int), (RE : Int), (FA : Int), cl⟩ = (Bv : Int) := by
            show Cfg.A _ + (n : Int) * ((FA : Int) + 4) = _
            rw [hAc, hBv]; simp
          have HBv := Lib.hid hBv
          clear hBv hlt
          go_wp2
          clear k1
          go_loopw [6, 11] (fun v vq wr => ∃ q : Nat, q ≤ CH ∧ vq = .int .u64 ((q : Int) + 1) ∧ Coll w wr w1.heap.size w2.heap.size #[.int .i64 (t : Int), .int .i64 (SN : Int), .int .i64 (n : Int), .int .i64 (CH : Int), .int .i64 (RE : Int), .int .i64 (FA : Int), .int .u64 cl] #[.int .i64 (t : Int), .int .i64 (SN : Int), .int .i64 (n : Int), .int .i64 (CH : Int), .int .i64 (RE : Int), .int .i64 (FA : Int), .int .u64 cl] v (Bv + q)) (fun _ vq _ => CH + 1 - (intOf vq).toNat)
          case atStart => exact ⟨0, by omega, by simp, hC⟩
          case round =>
            clear hC
            obtain ⟨q, hq, rfl, hC⟩ := hrel
            have k1 := blk_cell hC.one
            have k2 := blk_cell hC.two
            by_cases hlt : q < CH
            · have qf : ∀ w, Calls Try.prog 24 #[.agg #[.int .i64 (t : Int), .int .i64 (SN : Int), .int .i64 (n : Int), .int .i64 (CH : Int), .int .i64 (RE : Int), .int .i64 (FA : Int), .int .u64 cl], .int .u64 ((q : Int) + 1)] w fun e w' => e = .returned (.int .i64 ((Bv + q : Nat) : Int)) ∧ Below w.heap.size w w' := by
                intro w
                have := chain_any ⟨(t : Int), (SN : Int), (n : Int), (CH : Int), (RE : Int), (FA : Int), cl⟩ hd ((q : Int) + 1) (by omega) (by omega) w
                rw [show Cfg.chain ⟨(t : Int), (SN : Int), (n : Int), (CH : Int), (RE : Int), (FA : Int), cl⟩ ((q : Int) + 1) = ((Bv + q : Nat) : Int) by unfold Cfg.chain; rw [if_pos (by simp only; omega), hBc]; simp] at this
                exact this
              have Q := Lib.hid qf
              clear qf
              obtain ⟨MI, hMI⟩ : ∃ MI, MI = Bv + q := ⟨_, rfl⟩
              rw [← hMI] at Q hC
              have hMIb : MI ≤ 5000 := by omega
              have HMI := Lib.hid hMI
              clear hMI
              go_wp2_with fail
              refine (Q.out _).mono ?_
              rintro e w5 ⟨rfl, hb5⟩
              have hC2 := (hC.same hb5).same (Below.alloc (Below.refl w5.heap.size w5) (Nat.le_refl _) (.cells #[.int .i64 (MI : Int)] 3))
              clear hC hb5 k1 k2
              go_wp2_with (at_builtin; refine wpList_append_own _ rfl _ _ 42 rfl w.heap.size 3 i0 (.int .i64 0) 1 8 Try.underlying42 hi0 hz0 hz1 hz2 rfl (by decide) _ MI _ rfl hC2.own ⟨w5.heap.size, 0, none⟩ 1 1 [.int .i64 (MI : Int)] rfl rfl ?c1 ?c2 ?c3 ?c4 ?c5 ?_)
              case c1 => exact cells_new w5 [.int .i64 (MI : Int)] _
              case c2 => intro u hu; simp at hu; subst hu; rfl
              case c3 => unfold maxLen; omega
              case c4 => omega
              case c5 => exact hC2.low.size
              intro v' w' hown' hgrow _
              have hC3 := hC2.grown hown' (upTo_one MI).symm hgrow
              clear hC2 hown' hgrow
              go_wp2
              go_roundw
              case rel => exact ⟨q + 1, by omega, by go_num, by rw [show Bv + (q + 1) = MI + 1 by rw [HMI.out]; omega]; exact hC3⟩
              case measure => simp [intOf]; omega
            · obtain rfl : q = CH := by omega
              obtain ⟨wc, rfl⟩ : ∃ wc : World, wc = wr := ⟨_, rfl⟩
              obtain ⟨Cv, hCv⟩ : ∃ Cv, Cv = Bv + q := ⟨_, rfl⟩
              rw [← hCv] at hC
              have hCb : Cv ≤ 232 := by omega
              have hCc : Cfg.C ⟨(t : Int), (SN : Int), (n : Int), (q : Int), (RE : Int), (FA : Int), cl⟩ = (Cv : Int) := by
                show Cfg.B _ + (q : Int) = _
                rw [hBc, hCv]; simp
              have HCv := Lib.hid hCv
              clear hCv hlt
              go_wp2
              clear k1 k2
              go_loopw [6, 12] (fun v vr wr => ∃ r : Nat, r ≤ RE ∧ vr = .int .u64 ((r : Int) + 1) ∧ Coll w wr w1.heap.size w2.heap.size #[.int .i64 (t : Int), .int .i64 (SN : Int), .int .i64 (n : Int), .int .i64 (q : Int), .int .i64 (RE : Int), .int .i64 (FA : Int), .int .u64 cl] #[.int .i64 (t : Int), .int .i64 (SN : Int), .int .i64 (n : Int), .int .i64 (q : Int), .int .i64 (RE : Int), .int .i64 (FA : Int), .int .u64 cl] v (Cv + r * 3)) (fun _ vr _ => RE + 1 - (intOf vr).toNat)
              case atStart => exact ⟨0, by omega, by simp, by simpa using hC⟩
              case round =>
                clear hC
                obtain ⟨r, hr, rfl, hC⟩ := hrel
                have k1 := blk_cell hC.one
                have k2 := blk_cell hC.two
                by_cases hlt : r < RE
                · obtain ⟨MM, hMM⟩ : ∃ MM, MM = Cv + r * 3 := ⟨_, rfl⟩
                  have hrec : ∀ k : Int, Cfg.record ⟨(t : Int), (SN : Int), (n : Int), (q : Int), (RE : Int), (FA : Int), cl⟩ ((r : Int) + 1) k = (MM : Int) + k := by
                    intro k
                    unfold Cfg.record
                    rw [if_pos (by simp only; omega), hCc, hMM]
                    omega
                  rw [← hMM] at hC
                  have hMb : MM + 20 ≤ 5000 := by omega
                  have HMM := Lib.hid hMM
                  clear hMM
                  have q0 : ∀ w, Calls Try.prog 25 #[.agg #[.int .i64 (t : Int), .int .i64 (SN : Int), .int .i64 (n : Int), .int .i64 (q : Int), .int .i64 (RE : Int), .int .i64 (FA : Int), .int .u64 cl], .int .u64 ((r : Int) + 1)] w fun e w' => e = .returned (.int .i64 ((MM : Int))) ∧ Below w.heap.size w w' := by
                    intro w
                    have := stamp_any ⟨(t : Int), (SN : Int), (n : Int), (q : Int), (RE : Int), (FA : Int), cl⟩ hd ((r : Int) + 1) (by omega) (by omega) w
                    rw [hrec 0] at this
                    simpa using this
                  have q1 : ∀ w, Calls Try.prog 26 #[.agg #[.int .i64 (t : Int), .int .i64 (SN : Int), .int .i64 (n : Int), .int .i64 (q : Int), .int .i64 (RE : Int), .int .i64 (FA : Int), .int .u64 cl], .int .u64 ((r : Int) + 1)] w fun e w' => e = .returned (.int .i64 ((MM : Int) + 1)) ∧ Below w.heap.size w w' := by
                    intro w
                    have := value_any ⟨(t : Int), (SN : Int), (n : Int), (q : Int), (RE : Int), (FA : Int), cl⟩ hd ((r : Int) + 1) (by omega) (by omega) w
                    rw [hrec 1] at this
                    simpa using this
                  have q2 : ∀ w, Calls Try.prog 27 #[.agg #[.int .i64 (t : Int), .int .i64 (SN : Int), .int .i64 (n : Int), .int .i64 (q : Int), .int .i64 (RE : Int), .int .i64 (FA : Int), .int .u64 cl], .int .u64 ((r : Int) + 1)] w fun e w' => e = .returned (.int .i64 ((MM : Int) + 2)) ∧ Below w.heap.size w w' := by
                    intro w
                    have := next_any ⟨(t : Int), (SN : Int), (n : Int), (q : Int), (RE : Int), (FA : Int), cl⟩ hd ((r : Int) + 1) (by omega) (by omega) w
                    rw [hrec 2] at this
                    simpa using this
                  have Q0 := Lib.hid q0; have Q1 := Lib.hid q1; have Q2 := Lib.hid q2
                  clear q0 q1 q2
                  go_upto_region 28 with (fail)
                  refine region_tail_move _ 9 rfl rfl (by kernel_rfl) (by as_aux_lemma => kernel_rfl) (fun _ _ _ _ h => h) ?_
                  simp only [List.take_succ_cons, List.take_zero, List.drop_succ_cons, List.drop_zero, Act.put, List.setIfInBounds_toArray, List.set_cons_zero, List.set_cons_succ, Act.eval]
                  repeat (go_big_quiet_step (first | (go_at_call 25; exact pure_of (Q0.out _)) | (go_at_call 26; exact pure_of (Q1.out _)) | (go_at_call 27; exact pure_of (Q2.out _))))
                  refine wpQuiet_nil ?_
                  intro w5 hb5
                  have hC2 := (hC.same hb5).same (Below.alloc (Below.refl w5.heap.size w5) (Nat.le_refl _) (.cells [.int .i64 (MM : Int), .int .i64 ((MM : Int) + 1), .int .i64 ((MM : Int) + 2)].toArray 3))
                  clear hC hb5 k1 k2
                  go_wp2_with (at_builtin; refine wpList_append_own _ rfl _ _ 42 rfl w.heap.size 3 i0 (.int .i64 0) 1 8 Try.underlying42 hi0 hz0 hz1 hz2 rfl (by decide) _ MM _ rfl hC2.own ⟨w5.heap.size, 0, none⟩ 3 3 [.int .i64 (MM : Int), .int .i64 ((MM : Int) + 1), .int .i64 ((MM : Int) + 2)] rfl rfl ?c1 ?c2 ?c3 ?c4 ?c5 ?_)
                  case c1 => exact cells_new w5 [.int .i64 (MM : Int), .int .i64 ((MM : Int) + 1), .int .i64 ((MM : Int) + 2)] _
                  case c2 => intro u hu; simp at hu; rcases hu with rfl | rfl | rfl <;> rfl
                  case c3 => unfold maxLen; omega
                  case c4 => omega
                  case c5 => exact hC2.low.size
                  intro v' w' hown' hgrow _
                  have hC3 := hC2.grown hown' (by rw [upTo_add]; simp [List.range_succ]) hgrow
                  clear hC2 hown' hgrow
                  go_wp2
                  go_roundw
                  case rel => exact ⟨r + 1, by omega, by go_num, by rw [show Cv + (r + 1) * 3 = MM + 3 by rw [HMM.out]; omega]; exact hC3⟩
                  case measure => simp [intOf]; omega
                · obtain rfl : r = RE := by omega
                  obtain ⟨wd, rfl⟩ : ∃ wd : World, wd = wr := ⟨_, rfl⟩
                  have hMe : Cv + r * 3 = M := by rw [HM.out, HCv.out, HBv.out, HA.out]; omega
                  rw [hMe] at hC
                  clear hMe hlt
                  obtain ⟨g, capg, cur, rfl, hg1, hg2, hg3, hg4, hg5⟩ := own_open hC.own (by omega)
                  have hmk : ∀ w, (Instr.makeSlice 43 (.int .i64 M) (.int .i64 M)).run Try.prog w = .ok (.slice (some ⟨w.heap.size, 0, none⟩) M M) (w.alloc (.cells (Array.replicate M (.bool false)) 4)) := by
                    intro w
                    obtain ⟨i, hi, hz, h3, hby⟩ := info_parts infoBool
                    have := run_make w 43 4 i _ Try.underlying43 hi hz .i64 .i64 (M : Int) M (by omega) (by omega) (by rw [hby]; omega) (by omega)
                    rw [this, h3, Int.toNat_natCast, Nat.mul_one, show (Value.bool false).cells = #[.bool false] from rfl]
                    have e : madeCells #[.bool false] M = Array.replicate M (.bool false) := by
                      apply Array.ext'
                      rw [toList_madeCells_one]
                      simp
                    rw [e]
                  have hG1 := hC.two
                  have hlow := hC.low
                  clear hC hi0 hz0 hz1 hz2
                  go_wp2_with fail
                  refine (hcells _).mono ?_
                  rintro e w5 ⟨rfl, hb5⟩
                  have G5 := blk_same hb5 hg2
                  have hB5 := hlow.trans (hb5.mono hlow.size)
                  clear hb5 hg2 hlow k1 k2 hG1
                  have hD0 := blk_alloc w5 (.cells (Array.replicate M (.bool false)) 4)
                  have G6 := blk_old G5 (.cells (Array.replicate M (.bool false)) 4)
                  have hB6 := hB5.alloc hB5.size (.cells (Array.replicate M (.bool false)) 4)
                  go_wp2
                  clear hmk
                  go_loopw [14] (fun vk wr => ∃ k : Nat, k ≤ M ∧ vk = .int .i64 k ∧ wr.heap[g]? = some (.cells cur 3) ∧ wr.heap[w5.heap.size]? = some (.cells ((List.range M).map (fun i => Value.bool (decide (i < k)))).toArray 4) ∧ Below w.heap.size w wr) (fun vk _ => M - (intOf vk).toNat)
                  case atStart =>
                    refine ⟨0, by omega, rfl, G6, ?_, hB6⟩
                    have e : ((List.range M).map (fun i => Value.bool (decide (i < 0)))).toArray = Array.replicate M (.bool false) := by
                      apply Array.ext'
                      simp [List.map_const']
                    rw [e]
                    exact hD0
                  case round =>
                    obtain ⟨k, hk, rfl, hG, hD, hL⟩ := hrel
                    by_cases hlt : k < M
                    · have kg := blk_cell hG k
                      rw [hg5 k (.int .i64 (k : Int)) (by simp [upTo, hlt])] at kg
                      have kd := blk_cell hD k
                      have hd0 : (((List.range M).map (fun i => Value.bool (decide (i < k)))).toArray)[k]? = some (.bool false) := by simp [hlt]
                      rw [hd0] at kd
                      have kf := blk_frozen hD k
                      have D7 := blk_set hD k (.bool true)
                      have hne := blk_ne hG hD (by decide)
                      clear hd0
                      go_wp2
                      go_roundw
                      case rel =>
                        refine ⟨k + 1, by omega, by go_num, blk_set_other hG hne _ _, ?_, hL.setCell hB5.size _⟩
                        have e : (((List.range M).map (fun i => Value.bool (decide (i < k)))).toArray).setIfInBounds k (.bool true) = ((List.range M).map (fun i => Value.bool (decide (i < k + 1)))).toArray := by
                          apply Array.ext_getElem?
                          intro i
                          rw [Array.getElem?_setIfInBounds]
                          by_cases hik : k = i
                          · subst hik; simp [hlt]
                          · rw [if_neg hik]
                            by_cases hiM : i < M
                            · simp [hiM]; omega
                            · simp [hiM]
                        rw [← e]
                        exact D7
                      case measure => simp [intOf]; omega
                    · go_wp2
                      go_ret
                      exact ⟨rfl, hL⟩
end Go.Proofs.Ytfoojallpmibfaa
