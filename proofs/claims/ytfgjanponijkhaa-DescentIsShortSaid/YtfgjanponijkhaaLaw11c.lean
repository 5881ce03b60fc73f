/- The walk of DescentIsShort. -/
import Derived.Test.YtfgjanponijkhaaLaw11b
import Derived.Test.YtfgjanponijkhaaShort
namespace Go.Proofs.Ytfgjanponijkhaa
open Go.RowKit
set_option maxRecDepth 100000
section
variable {K : Know} {w : World} {F : List Comp} {b bm bc : Nat} {d : Cfg} {L : List Cel} {acc : Nat} {key : ByteArray} {s : FdS} {t : List (List Nd)} {m m2 : Nat} {ks : List ByteArray}
theorem findStep_short (hd : d.Ok) (hx : TreeX d ks false L t) (ha : acc ≤ 1000000) (h : FdInv d L t key 0 s m) (h2 : ShInv d L t key s m2) (hpc : s.pc ≠ 2) (hs : FdOn K b bm bc d L key 0 F s acc w) :
    Calls Try.prog 75 #[(.pointer (some ⟨b, 0, none⟩)), (.pointer (some ⟨bm, 0, none⟩))] w fun e w' => e = .returned (.bool (decide (2 ≤ (fdStep d L key (0 : Nat) s).pc))) ∧ 1 ≤ m ∧ 1 ≤ m2 ∧ FdInv d L t key 0 (fdStep d L key (0 : Nat) s) (m - 1) ∧ ShInv d L t key (fdStep d L key (0 : Nat) s) (m2 - 1) ∧ FdOn K b bm bc d L key 0 F (fdStep d L key (0 : Nat) s) (acc + 1) w' := by
  obtain ⟨q1, q2⟩ := h2.step hd hx hpc
  refine (findStep_inv hd hx.cels hx.ok ha h hpc hs).mono ?_
  rintro e w' ⟨e1, e2, e3, e4⟩
  exact ⟨e1, e2, q1, e3, q2, e4⟩
end
theorem short_fin {d : Cfg} {fanout : Int} {n h : Nat} (hfa : d.fa = 4 + fanout % 3) (hh : h ≤ 100) (hn : n + 1 ≤ h * nodeSteps d + 1) : decide ((n : Int) + 1 ≤ IntKind.u64.wrap (wrap64 (1 + wrap64 ((h : Int) * wrap64 (d.fa + 5))))) = true := by
  have e : d.fa + 5 = ((nodeSteps d : Nat) : Int) := by unfold nodeSteps; omega
  have h11 : nodeSteps d ≤ 11 := by unfold nodeSteps; omega
  have h2 := Nat.mul_le_mul hh h11
  rw [e, wrap64_idn (z := ((nodeSteps d : Nat) : Int)) (by omega) (by omega), show (h : Int) * ((nodeSteps d : Nat) : Int) = ((h * nodeSteps d : Nat) : Int) by rw [Int.natCast_mul]]
  rw [wrap64_idn (z := ((h * nodeSteps d : Nat) : Int)) (by omega) (by omega), wrap64_idn (by omega) (by omega), IntKind.wrap_u64]
  exact decide_eq_true (by omega)
set_option maxHeartbeats 8000000 in
theorem descentIsShort_walk (a : Option Addr) (len cap : Nat) (f : Nat → ByteArray) (fanout sh : Int) (key : ByteArray) (at' : Int) (hsh : 0 ≤ sh ∧ sh < 18446744073709551616) (_ : key.size ≤ maxLen) (w : World) (hz : StrsIn w a len f) :
    Calls Try.prog 12 #[.slice a len cap, .int .i64 fanout, .int .u64 sh, .string key, .int .i64 at'] w fun e w' => e = .returned (.bool true) ∧ Below w.heap.size w w' := by
  obtain ⟨d, hd, hfa, Qt⟩ := tree_ex cap fanout false hz hsh
  go_enter Try.func12, Try.ntmps12
  go_wp2_with fail
  refine (Qt.out _ _ (St.start w)).mono ?_
  rintro e w1 ⟨bm, bc, L, t, ks, ka, kc, rfl, HT, hs⟩
  have hs := (hs.made (.cells #[.int .i64 (d).th, .int .i64 (d).sn, .int .i64 (d).no, .int .i64 (d).ch, .int .i64 (d).re, .int .i64 (d).fa, .int .u64 (d).cl] 27)).made (.cells #[.int .i64 (d).th, .int .i64 (d).sn, .int .i64 (d).no, .int .i64 (d).ch, .int .i64 (d).re, .int .i64 (d).fa, .int .u64 (d).cl] 30)
  simp only [World.size_alloc] at hs
  obtain ⟨b0, hb0⟩ : ∃ b0, b0 = w1.heap.size := ⟨_, rfl⟩
  have QA := Lib.hid (fun (W : World) (cs : List Comp) (h : St (Know.of w) W cs) => awake11_st h)
  go_wp2_with fail
  rw [← hb0] at hs ⊢
  clear hb0
  refine (QA.out _ _ hs).mono ?_
  clear hs
  rintro e w2 ⟨rfl, hs⟩
  by_cases hkz : (100 : Int) < (key.size : Int)
  · have hkz := decide_eq_true hkz
    have q := QA.out _ _ hs
    have Q := Lib.hid q
    clear hs q
    go_wp2_with fail
    refine (Q.out).mono ?_
    rintro e w3 ⟨rfl, hs⟩
    go_wp2
    go_ret
    exact ⟨rfl, hs.below (Know.Le.refl _)⟩
  have hkz := decide_eq_false hkz
  go_upto_region 4 with (fail)
  clear hkz
  go_cut [50] (fun v50 wx => ∃ c1 : Bool, v50 = .bool c1 ∧ Hid (c1 = true → 0 < ks.length) ∧ St (Know.of w) wx [blk (b0 + 1) (.cells #[.int .i64 (d).th, .int .i64 (d).sn, .int .i64 (d).no, .int .i64 (d).ch, .int .i64 (d).re, .int .i64 (d).fa, .int .u64 (d).cl] 30), blk b0 (.cells #[.int .i64 (d).th, .int .i64 (d).sn, .int .i64 (d).no, .int .i64 (d).ch, .int .i64 (d).re, .int .i64 (d).fa, .int .u64 (d).cl] 27), memC bm bc L 0, rowC (.slice ka ks.length kc) 9 1 ks.length (stRow ks)])
  case first =>
    as_aux_lemma =>
    by_cases hk0 : 0 < ks.length
    · go_wp2
      go_meet
      exact ⟨_, rfl, Lib.hid (fun _ => hk0), hs⟩
    · go_wp2
      go_meet
      exact ⟨_, rfl, Lib.hid (fun h => by simp at h), hs⟩
  case rest =>
  clear hs
  obtain ⟨c1, rfl, Hc1, hs⟩ := hcut
  apply_assumption
  go_cut [3] (fun v3 wx => ∃ key' : ByteArray, v3 = .string key' ∧ St (Know.of w) wx [blk (b0 + 1) (.cells #[.int .i64 (d).th, .int .i64 (d).sn, .int .i64 (d).no, .int .i64 (d).ch, .int .i64 (d).re, .int .i64 (d).fa, .int .u64 (d).cl] 30), blk b0 (.cells #[.int .i64 (d).th, .int .i64 (d).sn, .int .i64 (d).no, .int .i64 (d).ch, .int .i64 (d).re, .int .i64 (d).fa, .int .u64 (d).cl] 27), memC bm bc L 0, rowC (.slice ka ks.length kc) 9 1 ks.length (stRow ks)])
  case first =>
    as_aux_lemma =>
    cases c1 with
    | false =>
      go_wp2
      go_meet
      exact ⟨key, rfl, hs⟩
    | true =>
      have hk0 := Hc1.out rfl
      have hk40 := HT.out.2.len
      obtain ⟨i, hi, hi2⟩ : ∃ i : Nat, at' % (ks.length : Int) = i ∧ i < ks.length := ⟨(at' % (ks.length : Int)).toNat, by have := Int.emod_nonneg at' (show (ks.length : Int) ≠ 0 by omega); omega, by have := Int.emod_lt_of_pos at' (show (0 : Int) < ks.length by omega); omega⟩
      have q := fun w => mod_any at' ks.length (by omega) (by omega) w
      rw [hi] at q
      have Q := Lib.hid q
      obtain ⟨g, rfl, hc⟩ := hs.b3.row_at (show (stRow ks)[i]? = some (.string ks[i]) by simp [stRow, hi2])
      have Hi2 := Lib.hid hi2
      clear q hi
      go_wp2_with fail
      refine (Q.out _).mono ?_
      rintro e w3 ⟨rfl, rfl⟩
      go_wp2
      go_meet
      exact ⟨_, rfl, hs⟩
  case rest =>
  clear hs Hc1 c1
  obtain ⟨key', rfl, hs⟩ := hcut
  apply_assumption
  have kl := hs.k0
  have q := newFind_st (d := d) (key := key') (level := 0) hs
  have Q := Lib.hid q
  clear hs q
  go_wp2_with fail
  refine (Q.out).mono ?_
  clear Q kl
  rintro e w5 ⟨b, rfl, hs⟩
  have ho : FdOn (Know.of w) b bm bc d L key' 0 (blk (b0 + 1) (.cells #[.int .i64 (d).th, .int .i64 (d).sn, .int .i64 (d).no, .int .i64 (d).ch, .int .i64 (d).re, .int .i64 (d).fa, .int .u64 (d).cl] 30) :: blk b0 (.cells #[.int .i64 (d).th, .int .i64 (d).sn, .int .i64 (d).no, .int .i64 (d).ch, .int .i64 (d).re, .int .i64 (d).fa, .int .u64 (d).cl] 27) :: rowC (.slice ka ks.length kc) 9 1 ks.length (stRow ks) :: []) fd0 0 w5 := FdOn.start (fun B => (hs B).re [0, 1, 4, 2, 3, 5] rfl)
  clear hs
  obtain ⟨T, hT⟩ : ∃ T : Nat, Hid (T = t.length * nodeSteps d + 1) := ⟨_, Lib.hid rfl⟩
  go_wp2_with fail
  go_loopw [16] (fun vn wr => ∃ (n m m2 : Nat) (s : FdS), n + m ≤ 1101 ∧ n + m2 ≤ T ∧ vn = .int .i64 n ∧ s.pc ≠ 2 ∧ Hid (FdInv d L t key' 0 s m ∧ ShInv d L t key' s m2) ∧ FdOn (Know.of w) b bm bc d L key' 0 (blk (b0 + 1) (.cells #[.int .i64 (d).th, .int .i64 (d).sn, .int .i64 (d).no, .int .i64 (d).ch, .int .i64 (d).re, .int .i64 (d).fa, .int .u64 (d).cl] 30) :: blk b0 (.cells #[.int .i64 (d).th, .int .i64 (d).sn, .int .i64 (d).no, .int .i64 (d).ch, .int .i64 (d).re, .int .i64 (d).fa, .int .u64 (d).cl] 27) :: rowC (.slice ka ks.length kc) 9 1 ks.length (stRow ks) :: []) s n wr) (fun v _ => 1101 - (intOf v).toNat)
  case atStart =>
    have hns : nodeSteps d ≤ 11 := by unfold nodeSteps; have := hfa.out; omega
    have hc := Nat.mul_le_mul HT.out.1.ok.count hns
    exact ⟨0, _, _, fd0, by omega, by rw [hT.out]; omega, rfl, by decide, Lib.hid ⟨FdInv.start, ShInv.start⟩, ho⟩
  case round =>
    clear ho
    obtain ⟨n, m, m2, s, hnm, hnm2, rfl, hpc, HI, ho⟩ := hrel
    have hm := (HI.out.1.step hd.out HT.out.1.cels HT.out.1.ok hpc).1
    have hm2 := (HI.out.2.step hd.out HT.out.1 hpc).1
    have hTall := HT.out.1.ok.tall
    have q := findStep_short hd.out HT.out.1 (by omega) HI.out.1 HI.out.2 hpc ho
    generalize fdStep d L key' (0 : Nat) s = s' at q
    clear ho
    by_cases hp : 2 ≤ s'.pc
    · rw [decide_eq_true hp] at q
      have Q := Lib.hid q
      clear q
      go_wp2_with fail
      refine (Q.out).mono ?_
      clear Q
      rintro e w6 ⟨rfl, _, _, hI, _, hs⟩
      obtain ⟨h2, _, _⟩ := hI.done hp
      obtain ⟨⟨B, va, va2⟩, hs⟩ := hs
      obtain ⟨pc, id, pg, rd⟩ := s'
      simp only at h2
      subst h2
      have hs : St (Know.of w) w6 (fdL b .nilFunc B va va2 d key' (0 : Nat) ⟨2, id, pg, rd⟩ ++ (memC bm bc L (n + 1) :: blk (b0 + 1) (.cells #[.int .i64 (d).th, .int .i64 (d).sn, .int .i64 (d).no, .int .i64 (d).ch, .int .i64 (d).re, .int .i64 (d).fa, .int .u64 (d).cl] 30) :: blk b0 (.cells #[.int .i64 (d).th, .int .i64 (d).sn, .int .i64 (d).no, .int .i64 (d).ch, .int .i64 (d).re, .int .i64 (d).fa, .int .u64 (d).cl] 27) :: rowC (.slice ka ks.length kc) 9 1 ks.length (stRow ks) :: [])) := hs
      have hs : St (Know.of w) w6 (memC bm bc L (n + 1) :: blk (b0 + 1) (.cells #[.int .i64 (d).th, .int .i64 (d).sn, .int .i64 (d).no, .int .i64 (d).ch, .int .i64 (d).re, .int .i64 (d).fa, .int .u64 (d).cl] 30) :: blk b0 (.cells #[.int .i64 (d).th, .int .i64 (d).sn, .int .i64 (d).no, .int .i64 (d).ch, .int .i64 (d).re, .int .i64 (d).fa, .int .u64 (d).cl] 27) :: rowC (.slice ka ks.length kc) 9 1 ks.length (stRow ks) :: []) := hs.tail.tail
      have kc := hs.k2
      have q := kitView_st (d := d) hs
      have Q := Lib.hid q
      clear q hs hp hI hpc
      go_wp2_with fail
      refine (Q.out).mono ?_
      clear Q kc
      rintro e w7 ⟨g, rfl, hle, hg, hs⟩
      obtain ⟨K2, hK2⟩ : ∃ K2, K2 = (Know.of w).add g (.cells (flat L).toArray 41) := ⟨_, rfl⟩
      rw [← hK2] at hle hg hs
      have Hle := Lib.hid hle
      have q := treeHeight_st hd.out HT.out.1.ok HT.out.1.clen hg hs
      have Q := Lib.hid q
      clear hle hK2 hg hs q
      go_wp2_with fail
      refine (Q.out).mono ?_
      clear Q
      rintro e w8 ⟨rfl, hs⟩
      have kc := hs.k2
      go_upto_region 11 with (fail)
      have Hfin : Hid (decide ((n : Int) + 1 ≤ IntKind.u64.wrap (wrap64 (1 + wrap64 ((t.length : Int) * wrap64 (d.fa + 5))))) = true) := Lib.hid (short_fin hfa.out hTall (by have := hT.out; omega))
      have hm3 := hs.mem
      have Qa := Lib.hid (fun W (hy : ∃ x : Ext, W = over w8 x) => accesses_st (hm3.same (Pure.below hy)))
      refine region_pure (by kernel_rfl) (by as_aux_lemma => kernel_rfl) ?_
      repeat (go_big_quiet_step ((go_at_call 28; exact pure_of_same (Qa.out _ ⟨_, rfl⟩))))
      refine wpQuiet_nil ?_
      intro w9 hb9
      have hs := hs.same hb9
      clear hb9 Qa hm3 kc
      go_wp2
      go_ret
      exact ⟨by rw [Hfin.out]; rfl, hs.below Hle.out⟩
    · have hp2 : s'.pc ≠ 2 := by omega
      rw [decide_eq_false hp] at q
      have Q := Lib.hid q
      clear q
      go_wp2_with fail
      refine (Q.out).mono ?_
      clear Q
      rintro e w6 ⟨rfl, _, _, hI, hI2, ho⟩
      have HI := Lib.hid (And.intro hI hI2)
      clear hI hI2
      go_wp2
      go_roundw
      case rel => exact ⟨n + 1, m - 1, m2 - 1, s', by omega, by omega, by go_num, hp2, HI, ho⟩
      case measure => simp [intOf]; omega
end Go.Proofs.Ytfgjanponijkhaa
