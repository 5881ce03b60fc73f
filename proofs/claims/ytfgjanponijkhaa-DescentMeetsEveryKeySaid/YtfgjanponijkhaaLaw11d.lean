/- The walk of DescentFinds. -/
import Derived.Test.YtfgjanponijkhaaLaw11b
import Derived.Test.YtfgjanponijkhaaLevA
namespace Go.Proofs.Ytfgjanponijkhaa
open Go.RowKit
set_option maxRecDepth 100000
/-- What a law of layer 11 knows of its tree, and that there are many nodes. -/
theorem tree_ex2 {w0 : World} {a : Option Addr} {len : Nat} {f : Nat → ByteArray} (cap : Nat) (fanout : Int) {sh : Int} (hide : Bool) (hz : StrsIn w0 a len f) (hsh : 0 ≤ sh ∧ sh < 18446744073709551616) :
    ∃ d : Cfg, Hid d.Ok ∧ Hid (d.fa = 4 + fanout % 3) ∧ Hid (100 ≤ d.no) ∧ Hid (∀ (w : World) (F : List Comp), St (Know.of w0) w F → Calls Try.prog 70 #[.slice a len cap, .int .i64 fanout, .int .u64 sh, .bool hide] w fun e w' => ∃ (bm bc : Nat) (L : List Cel) (t : List (List Nd)) (ks : List ByteArray) (ka : Option Addr) (kc : Nat),
      e = .returned (.tuple #[.agg #[.int .i64 (d).th, .int .i64 (d).sn, .int .i64 (d).no, .int .i64 (d).ch, .int .i64 (d).re, .int .i64 (d).fa, .int .u64 (d).cl], .agg #[.int .i64 (d).th, .int .i64 (d).sn, .int .i64 (d).no, .int .i64 (d).ch, .int .i64 (d).re, .int .i64 (d).fa, .int .u64 (d).cl], (.pointer (some ⟨bm, 0, none⟩)), .slice ka ks.length kc]) ∧ Hid (TreeX d ks hide L t ∧ KeysOk 40 ks) ∧ St (Know.of w0) w' (memC bm bc L 0 :: rowC (.slice ka ks.length kc) 9 1 ks.length (stRow ks) :: F)) :=
  ⟨kitC 1 (4 + fanout % 3) 1000, Lib.hid (kit8_ok fanout), Lib.hid rfl, Lib.hid (by simp [kitC]), Lib.hid (fun _ _ hs => tree_st hz hsh hs)⟩
/-- What the level's nodes say of the node that Find has found: wv i is what the first i nodes give. -/
theorem want_of {d : Cfg} {L : List Cel} {t : List (List Nd)} {key : ByteArray} {k : Nat} {s : FdS} (hd : d.Ok) (ht : TreeOk d L t) (hr : FdRes t key k s) (hk : k ≤ t.length) :
    ∃ (l : List Nd) (wv : Nat → Int), lvIds t k = l.map (·.id) ∧ l.length ≤ 100 ∧ (∀ nd : Nd, nd ∈ l → NdOk d L nd) ∧ wv 0 = 0 ∧ (∀ (i : Nat) (nd : Nd), l[i]? = some nd → wv (i + 1) = if (!klt key nd.low && (nd.pg.la || klt key nd.pg.hi)) then nd.id else wv i) ∧ wv l.length = s.id ∧
      (s.id = 0 ∨ (s.id ≠ 0 ∧ ∃ nd : Nd, nd ∈ l ∧ s.id = nd.id ∧ s.pg = nd.pg)) ∧ (∀ (i : Nat) (nd : Nd), l[i]? = some nd → (lowsOf l)[i]? = some nd.low) ∧ s.pg.sl.length ≤ 1000000 := by
  rcases Nat.lt_or_ge k t.length with h | h
  · obtain ⟨l, i, nd, hl, hi, hid, hpg, hlow, hcov⟩ := hr.1 h
    have hrow := ht.rows k l hl
    have hN := ht.nodes k l hl
    have hnd := hN nd (List.mem_of_getElem? hi)
    have hil := (List.getElem?_eq_some_iff.1 hi).1
    have hll := List.sum_le_of_mem' hl
    have hc := ht.count
    refine ⟨l, fun j => if i < j then nd.id else 0, by unfold lvIds; rw [hl], by omega, hN, by simp, fun j x hj => ?_, by show (if i < l.length then nd.id else 0) = s.id; rw [if_pos hil, hid], .inr ⟨by have := hnd.id.1; omega, nd, List.mem_of_getElem? hi, hid, hpg⟩, fun j x hj => hrow.lows_at hj, by rw [hpg]; have := hnd.page.le; have := hd.fa2; omega⟩
    by_cases hij : j = i
    · subst hij
      rw [hi] at hj
      cases hj
      rw [hlow, hcov]
      simp
    · have hcf : (!klt key x.low && (x.pg.la || klt key x.pg.hi)) = false := by
        cases e : (!klt key x.low && (x.pg.la || klt key x.pg.hi)) with
        | false => rfl
        | true =>
          rw [Bool.and_eq_true, Bool.not_eq_true'] at e
          exact absurd (hrow.cover_one hj hi e.1 e.2 hlow hcov) hij
      rw [hcf]
      simp only [Bool.false_eq_true, if_false]
      by_cases h2 : i < j
      · rw [if_pos (by omega), if_pos h2]
      · rw [if_neg (by omega), if_neg h2]
  · obtain ⟨h1, h2⟩ := hr.2 h
    have hn : t[k]? = none := List.getElem?_eq_none (by omega)
    exact ⟨[], fun _ => 0, by unfold lvIds; rw [hn]; rfl, by simp, fun nd h => (by cases h), rfl, fun i nd h => by simp at h, h1.symm, .inl h1, fun i nd h => by simp at h, by rw [h2]; exact Nat.zero_le _⟩
set_option maxHeartbeats 8000000 in
theorem descentFinds_walk (a : Option Addr) (len cap : Nat) (f : Nat → ByteArray) (fanout sh : Int) (hide : Bool) (key : ByteArray) (at' level' : Int) (hsh : 0 ≤ sh ∧ sh < 18446744073709551616) (_ : key.size ≤ maxLen) (w : World) (hz : StrsIn w a len f) :
    Calls Try.prog 11 #[.slice a len cap, .int .i64 fanout, .int .u64 sh, .bool hide, .string key, .int .i64 at', .int .i64 level'] w fun e w' => e = .returned (.bool true) ∧ Below w.heap.size w w' := by
  obtain ⟨d, hd, hfa, hno, Qt⟩ := tree_ex2 cap fanout hide hz hsh
  go_enter Try.func11, Try.ntmps11
  go_wp2_with fail
  refine (Qt.out _ _ (St.start w)).mono ?_
  rintro e w1 ⟨bm, bc, L, t, ks, ka, kc, rfl, HT, hs⟩
  have hs := (hs.made (.cells #[.int .i64 (d).th, .int .i64 (d).sn, .int .i64 (d).no, .int .i64 (d).ch, .int .i64 (d).re, .int .i64 (d).fa, .int .u64 (d).cl] 27)).made (.cells #[.int .i64 (d).th, .int .i64 (d).sn, .int .i64 (d).no, .int .i64 (d).ch, .int .i64 (d).re, .int .i64 (d).fa, .int .u64 (d).cl] 30)
  simp only [World.size_alloc] at hs
  obtain ⟨b0, hb0⟩ : ∃ b0, b0 = w1.heap.size := ⟨_, rfl⟩
  have QA := Lib.hid (fun (W : World) (cs : List Comp) (h : St (Know.of w) W cs) => awake11_st h)
  go_wp2_with fail
  rw [← hb0] at hs ⊢
  clear hb0
  refine (QA.out _ _ hs).mono ?_
  clear hs
  rintro e w2 ⟨rfl, hs⟩
  by_cases hkz : (100 : Int) < (key.size : Int)
  · have hkz := decide_eq_true hkz
    have q := QA.out _ _ hs
    have Q := Lib.hid q
    clear hs q
    go_wp2_with fail
    refine (Q.out).mono ?_
    rintro e w3 ⟨rfl, hs⟩
    go_wp2
    go_ret
    exact ⟨rfl, hs.below (Know.Le.refl _)⟩
  have hkz := decide_eq_false hkz
  go_upto_region 4 with (fail)
  clear hkz
  go_cut [62] (fun v50 wx => ∃ c1 : Bool, v50 = .bool c1 ∧ Hid (c1 = true → 0 < ks.length) ∧ St (Know.of w) wx [blk (b0 + 1) (.cells #[.int .i64 (d).th, .int .i64 (d).sn, .int .i64 (d).no, .int .i64 (d).ch, .int .i64 (d).re, .int .i64 (d).fa, .int .u64 (d).cl] 30), blk b0 (.cells #[.int .i64 (d).th, .int .i64 (d).sn, .int .i64 (d).no, .int .i64 (d).ch, .int .i64 (d).re, .int .i64 (d).fa, .int .u64 (d).cl] 27), memC bm bc L 0, rowC (.slice ka ks.length kc) 9 1 ks.length (stRow ks)])
  case first =>
    as_aux_lemma =>
    by_cases hk0 : 0 < ks.length
    · go_wp2
      go_meet
      exact ⟨_, rfl, Lib.hid (fun _ => hk0), hs⟩
    · go_wp2
      go_meet
      exact ⟨_, rfl, Lib.hid (fun h => by simp at h), hs⟩
  case rest =>
  clear hs
  obtain ⟨c1, rfl, Hc1, hs⟩ := hcut
  apply_assumption
  go_cut [4] (fun v3 wx => ∃ key' : ByteArray, v3 = .string key' ∧ St (Know.of w) wx [blk (b0 + 1) (.cells #[.int .i64 (d).th, .int .i64 (d).sn, .int .i64 (d).no, .int .i64 (d).ch, .int .i64 (d).re, .int .i64 (d).fa, .int .u64 (d).cl] 30), blk b0 (.cells #[.int .i64 (d).th, .int .i64 (d).sn, .int .i64 (d).no, .int .i64 (d).ch, .int .i64 (d).re, .int .i64 (d).fa, .int .u64 (d).cl] 27), memC bm bc L 0, rowC (.slice ka ks.length kc) 9 1 ks.length (stRow ks)])
  case first =>
    as_aux_lemma =>
    cases c1 with
    | false =>
      go_wp2
      go_meet
      exact ⟨key, rfl, hs⟩
    | true =>
      have hk0 := Hc1.out rfl
      have hk40 := HT.out.2.len
      obtain ⟨i, hi, hi2⟩ : ∃ i : Nat, at' % (ks.length : Int) = i ∧ i < ks.length := ⟨(at' % (ks.length : Int)).toNat, by have := Int.emod_nonneg at' (show (ks.length : Int) ≠ 0 by omega); omega, by have := Int.emod_lt_of_pos at' (show (0 : Int) < ks.length by omega); omega⟩
      have q := fun w => mod_any at' ks.length (by omega) (by omega) w
      rw [hi] at q
      have Q := Lib.hid q
      obtain ⟨g, rfl, hc⟩ := hs.b3.row_at (show (stRow ks)[i]? = some (.string ks[i]) by simp [stRow, hi2])
      have Hi2 := Lib.hid hi2
      clear q hi
      go_wp2_with fail
      refine (Q.out _).mono ?_
      rintro e w3 ⟨rfl, rfl⟩
      go_wp2
      go_meet
      exact ⟨_, rfl, hs⟩
  case rest =>
  clear hs Hc1 c1
  obtain ⟨key', rfl, hs⟩ := hcut
  apply_assumption
  have kb := hs.k1
  have q := kitView_st (d := d) (hs.re [2, 0, 1] rfl)
  have Q := Lib.hid q
  clear q hs
  go_wp2_with fail
  refine (Q.out).mono ?_
  clear Q kb
  rintro e w3 ⟨g, rfl, hle, hg, hs⟩
  obtain ⟨K2, hK2⟩ : ∃ K2, K2 = (Know.of w).add g (.cells (flat L).toArray 41) := ⟨_, rfl⟩
  rw [← hK2] at hle hg hs
  have Hg := Lib.hid hg
  have Hle := Lib.hid hle
  have hs := hs.made (.cells #[.int .i64 (d).th, .int .i64 (d).sn, .int .i64 (d).no, .int .i64 (d).ch, .int .i64 (d).re, .int .i64 (d).fa, .int .u64 (d).cl, .slice (some ⟨g, 0, none⟩) L.length L.length] 110)
  obtain ⟨bv, hbv⟩ : ∃ bv, bv = w3.heap.size := ⟨_, rfl⟩
  rw [← hbv] at hs
  have hs := hs.re [1, 0] rfl
  have kv := hs.k1
  have q := treeHeight_st hd.out HT.out.1.ok HT.out.1.clen hg hs
  have Q := Lib.hid q
  have hTall := HT.out.1.ok.tall
  clear hK2 hg hle hs q
  go_wp2_with fail
  rw [← hbv]
  clear hbv
  refine (Q.out).mono ?_
  clear Q kv
  rintro e w4 ⟨rfl, hs⟩
  have hw1 : wrap64 ((t.length : Int) + 1) = ((t.length + 1 : Nat) : Int) := by rw [wrap64_idn (by omega) (by omega)]; rfl
  obtain ⟨k, hk, hk2⟩ : ∃ k : Nat, level' % ((t.length + 1 : Nat) : Int) = k ∧ k ≤ t.length := ⟨(level' % ((t.length + 1 : Nat) : Int)).toNat, by have := Int.emod_nonneg level' (show ((t.length + 1 : Nat) : Int) ≠ 0 by omega); omega, by have := Int.emod_lt_of_pos level' (show (0 : Int) < ((t.length + 1 : Nat) : Int) by omega); omega⟩
  have q := fun w => mod_any level' ((t.length + 1 : Nat) : Int) (by omega) (by omega) w
  rw [hk] at q
  have Q := Lib.hid q
  clear q hk
  go_wp2_with fail
  refine (Q.out _).mono ?_
  clear Q hw1
  rintro e w5 ⟨rfl, rfl⟩
  have kl := hs.k2
  have q := newFind_st (d := d) (key := key') (level := (k : Int)) hs
  have Q := Lib.hid q
  clear hs q
  go_wp2_with fail
  refine (Q.out).mono ?_
  clear Q kl
  rintro e w6 ⟨b, rfl, hs⟩
  have ho : FdOn K2 b bm bc d L key' k (blk bv (.cells #[.int .i64 (d).th, .int .i64 (d).sn, .int .i64 (d).no, .int .i64 (d).ch, .int .i64 (d).re, .int .i64 (d).fa, .int .u64 (d).cl, .slice (some ⟨g, 0, none⟩) L.length L.length] 110) :: blk (b0 + 1) (.cells #[.int .i64 (d).th, .int .i64 (d).sn, .int .i64 (d).no, .int .i64 (d).ch, .int .i64 (d).re, .int .i64 (d).fa, .int .u64 (d).cl] 30) :: blk b0 (.cells #[.int .i64 (d).th, .int .i64 (d).sn, .int .i64 (d).no, .int .i64 (d).ch, .int .i64 (d).re, .int .i64 (d).fa, .int .u64 (d).cl] 27) :: rowC (.slice ka ks.length kc) 9 1 ks.length (stRow ks) :: []) fd0 0 w6 := FdOn.start (fun B => hs B)
  clear hs
  go_wp2_with fail
  go_loopw [21] (fun vn wr => ∃ (n q m : Nat) (s : FdS), n + m ≤ 1102 ∧ Hid (q + 1 = n) ∧ vn = .int .i64 n ∧ s.pc ≠ 2 ∧ Hid (FdInv d L t key' k s m) ∧ FdOn K2 b bm bc d L key' k (blk bv (.cells #[.int .i64 (d).th, .int .i64 (d).sn, .int .i64 (d).no, .int .i64 (d).ch, .int .i64 (d).re, .int .i64 (d).fa, .int .u64 (d).cl, .slice (some ⟨g, 0, none⟩) L.length L.length] 110) :: blk (b0 + 1) (.cells #[.int .i64 (d).th, .int .i64 (d).sn, .int .i64 (d).no, .int .i64 (d).ch, .int .i64 (d).re, .int .i64 (d).fa, .int .u64 (d).cl] 30) :: blk b0 (.cells #[.int .i64 (d).th, .int .i64 (d).sn, .int .i64 (d).no, .int .i64 (d).ch, .int .i64 (d).re, .int .i64 (d).fa, .int .u64 (d).cl] 27) :: rowC (.slice ka ks.length kc) 9 1 ks.length (stRow ks) :: []) s q wr) (fun v _ => 1102 - (intOf v).toNat)
  case atStart =>
    have hns : nodeSteps d ≤ 11 := by unfold nodeSteps; have := hfa.out; omega
    have hc := Nat.mul_le_mul HT.out.1.ok.count hns
    exact ⟨1, 0, _, fd0, by omega, Lib.hid rfl, rfl, by decide, Lib.hid FdInv.start, ho⟩
  case round =>
    clear ho
    obtain ⟨n, q0, m, s, hnm, Hq, rfl, hpc, HI, ho⟩ := hrel
    have hm := (HI.out.step hd.out HT.out.1.cels HT.out.1.ok hpc).1
    have q := findStep_inv hd.out HT.out.1.cels HT.out.1.ok (by have := Hq.out; omega) HI.out hpc ho
    generalize fdStep d L key' k s = s' at q
    clear ho
    by_cases hp : 2 ≤ s'.pc
    · rw [decide_eq_true hp] at q
      have Q := Lib.hid q
      clear q
      go_wp2_with fail
      refine (Q.out).mono ?_
      clear Q
      rintro e w7 ⟨rfl, _, hI, hs⟩
      obtain ⟨h2, hr⟩ := hI.done hp
      obtain ⟨l, wv, W1, W2, W3, W4, W5, W6, W7, W8, W9⟩ := want_of hd.out HT.out.1.ok hr hk2
      obtain ⟨⟨B, va, va2⟩, hs⟩ := hs
      obtain ⟨pc, id, pg, rd⟩ := s'
      simp only at h2 W6 W7 W9
      subst h2
      rw [Hq.out] at hs
      have hs : St K2 w7 (fdL b .nilFunc B va va2 d key' (k : Nat) ⟨2, id, pg, rd⟩ ++ (memC bm bc L n :: blk bv (.cells #[.int .i64 (d).th, .int .i64 (d).sn, .int .i64 (d).no, .int .i64 (d).ch, .int .i64 (d).re, .int .i64 (d).fa, .int .u64 (d).cl, .slice (some ⟨g, 0, none⟩) L.length L.length] 110) :: blk (b0 + 1) (.cells #[.int .i64 (d).th, .int .i64 (d).sn, .int .i64 (d).no, .int .i64 (d).ch, .int .i64 (d).re, .int .i64 (d).fa, .int .u64 (d).cl] 30) :: blk b0 (.cells #[.int .i64 (d).th, .int .i64 (d).sn, .int .i64 (d).no, .int .i64 (d).ch, .int .i64 (d).re, .int .i64 (d).fa, .int .u64 (d).cl] 27) :: rowC (.slice ka ks.length kc) 9 1 ks.length (stRow ks) :: [])) := hs
      have q1 := findNode_st rfl (show pg.sl.length ≤ 1000000 from W9) hs
      have Q := Lib.hid q1
      have HW1 := Lib.hid W1
      have HW3 := Lib.hid W3
      have HW5 := Lib.hid (And.intro W4 (And.intro W5 W6))
      have HW7 := Lib.hid W7
      have HW8 := Lib.hid W8
      clear hs q1 hp hr hI hpc W1 W3 W4 W5 W6 W7 W8
      go_wp2_with fail
      refine (Q.out).mono ?_
      clear Q
      rintro e w8 ⟨va', rfl, hs⟩
      obtain ⟨a1, cap1, hv, _, _⟩ := hs.row_read
      subst hv
      have hs := hs.made (.cells #[.int .i64 (pg).lev, (.slice a1 pg.sl.length cap1), .string (pg).hi, .bool (pg).la, .int .u64 (pg).ri] 25)
      obtain ⟨bp, hbp⟩ : ∃ bp, bp = w8.heap.size := ⟨_, rfl⟩
      rw [← hbp] at hs
      have hs : St K2 _ (memC bm bc L n :: blk bp (.cells #[.int .i64 (pg).lev, (.slice a1 pg.sl.length cap1), .string (pg).hi, .bool (pg).la, .int .u64 (pg).ri] 25) :: slC (.slice a1 pg.sl.length cap1) pg :: blk bv (.cells #[.int .i64 (d).th, .int .i64 (d).sn, .int .i64 (d).no, .int .i64 (d).ch, .int .i64 (d).re, .int .i64 (d).fa, .int .u64 (d).cl, .slice (some ⟨g, 0, none⟩) L.length L.length] 110) :: []) := (hs.re [2, 3, 6, 7, 8, 4, 0, 1, 5] rfl).tail.tail.tail.tail.tail
      go_upto_region 13 with (fail)
      rw [← hbp]
      clear hbp
      go_cut [113] (fun v wx => v = .bool false ∧ St K2 wx (memC bm bc L n :: blk bp (.cells #[.int .i64 (pg).lev, (.slice a1 pg.sl.length cap1), .string (pg).hi, .bool (pg).la, .int .u64 (pg).ri] 25) :: slC (.slice a1 pg.sl.length cap1) pg :: blk bv (.cells #[.int .i64 (d).th, .int .i64 (d).sn, .int .i64 (d).no, .int .i64 (d).ch, .int .i64 (d).re, .int .i64 (d).fa, .int .u64 (d).cl, .slice (some ⟨g, 0, none⟩) L.length L.length] 110) :: []))
      case first =>
        as_aux_lemma =>
        have hw2 : IntKind.u64.wrap (n : Int) = n := by rw [IntKind.wrap_u64]; omega
        have hge : decide ((5000 : Int) ≤ (n : Int)) = false := decide_eq_false (by omega)
        have hlen := hs.mem.len
        have Hs := Lib.hid hs
        clear hs
        refine region_effectsK [false, false, false, false, false, false, false, false, false, false, false, true, false, false, true, false, false] (fun | 14 => some (.bool true) | _ => none) [11, 14] (fun | 14 => [11] | _ => [])
          (GR K2 (memC bm bc L n :: blk bp (.cells #[.int .i64 (pg).lev, (.slice a1 pg.sl.length cap1), .string (pg).hi, .bool (pg).la, .int .u64 (pg).ri] 25) :: slC (.slice a1 pg.sl.length cap1) pg :: blk bv (.cells #[.int .i64 (d).th, .int .i64 (d).sn, .int .i64 (d).no, .int .i64 (d).ch, .int .i64 (d).re, .int .i64 (d).fa, .int .u64 (d).cl, .slice (some ⟨g, 0, none⟩) L.length L.length] 110) :: []) [11, 14] (CsΦ L 11 14))
          (fun W => St K2 W (memC bm bc L n :: blk bp (.cells #[.int .i64 (pg).lev, (.slice a1 pg.sl.length cap1), .string (pg).hi, .bool (pg).la, .int .u64 (pg).ri] 25) :: slC (.slice a1 pg.sl.length cap1) pg :: blk bv (.cells #[.int .i64 (d).th, .int .i64 (d).sn, .int .i64 (d).no, .int .i64 (d).ch, .int .i64 (d).re, .int .i64 (d).fa, .int .u64 (d).cl, .slice (some ⟨g, 0, none⟩) L.length L.length] 110) :: [])) ?aSq (by kernel_rfl) ?hBq ?Hq ?haSq ?h0q ?hIq ?hRq ?hEq ?hQq
        case hBq => as_aux_lemma => kernel_rfl
        case Hq =>
          intro W2 hs
          have kv := hs.tail.k2
          have hm3 := hs.mem
          have Qa := Lib.hid (fun W (hy : ∃ x : Ext, W = over W2 x) => accesses_st (hm3.same (Pure.below hy)))
          clear hs hm3
          simp only [withK]
          repeat (go_big_quiet_step ((go_at_call 28; exact pure_of_same (Qa.out _ ⟨_, rfl⟩))))
          refine wpQuiet_nil ?_
          rfl
        case haSq => rfl
        case h0q => exact GR.start Hs.out
        case hIq => exact fun ρ W2 h => h.rest
        case hRq => exact fun ρ W2 W3 h hb => h.same hb
        case hEq =>
          refine ⟨?e11q, ?e14q, trivial⟩
          case e11q =>
            intro o ho ρ W2 h hcl h11 hd2 af haf
            obtain rfl := Option.some.inj ho
            replace haf : af = fillD _ ρ [] _ := haf
            obtain ⟨C, R', h1, hs, hnext⟩ := h.step CsΦ.mono 11 [] (by decide) (by decide) (by decide) h11 (by simp)
            simp only [fillD] at haf
            subst haf
            have Hn := Lib.hid hnext
            clear hnext h1 h hcl hd2 h11
            go_wp2_with fail
            refine (kitCells_st hs).mono ?_
            rintro e W3 ⟨g8, rfl, hs'⟩
            have Hs' := Lib.hid hs'
            clear hs hs'
            go_wp2
            exact ⟨rfl, _, rfl, fun u hu => (by cases hu), Hn.out _ _ W3 ⟨g8, rfl, rfl⟩ Hs'.out⟩
          case e14q =>
            intro o ho ρ W2 h hcl h14 hd2 af haf
            obtain rfl := Option.some.inj ho
            replace haf : af = fillD _ ρ [11] _ := haf
            obtain ⟨v11, h11⟩ := Option.isSome_iff_exists.1 (hd2 11 (by show _ ∈ [11]; simp))
            obtain ⟨cs8, R8, ⟨g8, rfl, rfl⟩, hs8⟩ := h.at 11 (by simp) h11
            have Q14 := Lib.hid (same_cells W2 g8 g L hlen hs8.head (hs8.know g _ Hg.out))
            have H := Lib.hid h
            have H14 := Lib.hid h14
            simp only [fillD, h11, Option.getD_some, dstAt, List.getElem?_cons_succ, List.getElem?_cons_zero, Option.bind_some, Option.bind_none, Act.put, List.setIfInBounds_toArray, List.set_cons_zero, List.set_cons_succ] at haf
            subst haf
            clear hs8 h hcl hd2 h11 h14
            go_wp2_with fail
            refine (Q14.out).mono ?_
            rintro e W3 ⟨rfl, hb⟩
            have Hb := Lib.hid hb
            clear hb
            go_wp2
            exact ⟨rfl, _, rfl, fun u hu => Option.some.inj hu, (H.out.same Hb.out).know CsΦ.mono 14 (by decide) (by simp) H14.out _ ⟨rfl, rfl⟩⟩
        case hQq =>
          intro ρ W2 h hall
          have hs := h.rest
          clear h
          simp only [fillD, Option.getD_some, dstAt, List.getElem?_cons_succ, List.getElem?_cons_zero, Option.bind_some, Option.bind_none, Act.put, List.setIfInBounds_toArray, List.set_cons_zero, List.set_cons_succ]
          go_wp2
          go_meet
          exact ⟨rfl, hs⟩
      case rest =>
      clear hs
      obtain ⟨rfl, hs⟩ := hcut
      have hL : L.length ≤ 1000000 := by have := HT.out.1.clen; have := hd.out.cells_bd; omega
      have kv := hs.tail.k2
      have q := viewLevel_st hd.out hno.out HT.out.1.ok hk2 Hg.out hL hs
      rw [HW1.out] at q
      simp only [List.length_map] at q
      have Q := Lib.hid q
      clear q hs
      go_wp2_with fail
      refine (Q.out).mono ?_
      clear Q kv
      rintro e w9 ⟨v, rfl, hs⟩
      obtain ⟨aa, ca, rfl, _, _⟩ := hs.row_read
      have kv := hs.tail.tail.k2
      have q := lows_st hd.out W2 HW3.out Hg.out hL hs
      have Q := Lib.hid q
      clear q hs
      go_wp2_with fail
      refine (Q.out).mono ?_
      clear Q kv
      rintro e w10 ⟨v, rfl, hs⟩
      obtain ⟨al, cl, rfl, _, _⟩ := hs.row_read
      have Hwv0 : Hid (wv 0 = 0) := Lib.hid HW5.out.1
      have QP := Lib.hid (fun (nd : Nd) (hn : nd ∈ l) W cs (h : St K2 W cs) => viewPage_st hd.out (HW3.out nd hn).id.1 (HW3.out nd hn).id.2 (HW3.out nd hn).page Hg.out hL h)
      go_wp2_with fail
      go_loopw [26, 27, 28] (fun v26 v27 _ wr => ∃ j : Nat, v26 = .int .u64 (wv j) ∧ v27 = .int .i64 j ∧ j ≤ l.length ∧ St K2 wr (rowC (.slice al (l.length + 1) cl) 9 1 (l.length + 1) (stRow (lowsOf l)) :: rowC (.slice aa l.length ca) 23 1 l.length (u64Row (l.map (·.id))) :: memC bm bc L n :: blk bp (.cells #[.int .i64 (pg).lev, (.slice a1 pg.sl.length cap1), .string (pg).hi, .bool (pg).la, .int .u64 (pg).ri] 25) :: slC (.slice a1 pg.sl.length cap1) pg :: blk bv (.cells #[.int .i64 (d).th, .int .i64 (d).sn, .int .i64 (d).no, .int .i64 (d).ch, .int .i64 (d).re, .int .i64 (d).fa, .int .u64 (d).cl, .slice (some ⟨g, 0, none⟩) L.length L.length] 110) :: [])) (fun _ v27 _ _ => l.length - (intOf v27).toNat)
      case atStart => exact ⟨0, by rw [Hwv0.out], rfl, by omega, hs⟩
      case round =>
        clear hs
        obtain ⟨j, rfl, rfl, hj, hs⟩ := hrel
        by_cases hjl : j < l.length
        · obtain ⟨nd, hnd⟩ : ∃ nd, l[j]? = some nd := ⟨_, List.getElem?_eq_getElem hjl⟩
          have Hnd := Lib.hid hnd
          have QN := Lib.hid (QP.out nd (List.mem_of_getElem? hnd))
          obtain ⟨ga, hga, _⟩ := (show St K2 wr (rowC _ _ _ _ _ :: _) from hs.b1).row_at (show (u64Row (l.map (·.id)))[j]? = some (.int .u64 nd.id) by simp [u64Row, hnd])
          obtain ⟨gl, hgl, _⟩ := hs.row_at (show (stRow (lowsOf l))[j]? = some (.string nd.low) by simp [stRow, HW8.out j nd hnd])
          subst hga hgl
          have Hstep := Lib.hid (HW5.out.2.1 j nd hnd)
          clear hnd
          go_upto_region 21 with (fail)
          have Hs := Lib.hid hs
          clear hs
          refine region_effects [false, false, false, false, false, true, true, true] [5, 6, 7] (fun | 7 => [5, 6] | _ => [])
            (PbR K2 (rowC (.slice (some ⟨gl, 0, none⟩) (l.length + 1) cl) 9 1 (l.length + 1) (stRow (lowsOf l)) :: rowC (.slice (some ⟨ga, 0, none⟩) l.length ca) 23 1 l.length (u64Row (l.map (·.id))) :: memC bm bc L n :: blk bp (.cells #[.int .i64 (pg).lev, (.slice a1 pg.sl.length cap1), .string (pg).hi, .bool (pg).la, .int .u64 (pg).ri] 25) :: slC (.slice a1 pg.sl.length cap1) pg :: blk bv (.cells #[.int .i64 (d).th, .int .i64 (d).sn, .int .i64 (d).no, .int .i64 (d).ch, .int .i64 (d).re, .int .i64 (d).fa, .int .u64 (d).cl, .slice (some ⟨g, 0, none⟩) L.length L.length] 110) :: []) nd.pg)
            (fun W => St K2 W (rowC (.slice (some ⟨gl, 0, none⟩) (l.length + 1) cl) 9 1 (l.length + 1) (stRow (lowsOf l)) :: rowC (.slice (some ⟨ga, 0, none⟩) l.length ca) 23 1 l.length (u64Row (l.map (·.id))) :: memC bm bc L n :: blk bp (.cells #[.int .i64 (pg).lev, (.slice a1 pg.sl.length cap1), .string (pg).hi, .bool (pg).la, .int .u64 (pg).ri] 25) :: slC (.slice a1 pg.sl.length cap1) pg :: blk bv (.cells #[.int .i64 (d).th, .int .i64 (d).sn, .int .i64 (d).no, .int .i64 (d).ch, .int .i64 (d).re, .int .i64 (d).fa, .int .u64 (d).cl, .slice (some ⟨g, 0, none⟩) L.length L.length] 110) :: [])) ?aSb (by kernel_rfl) ?hBb ?Hb ?haSb ?h0b ?hIb ?hRb ?hEb ?hQb
          case hBb => as_aux_lemma => kernel_rfl
          case Hb =>
            intro W2 hs
            have kv := hs.tail.tail.tail.k2
            have c0 := (show St K2 W2 (rowC _ _ _ _ _ :: _) from hs.b1).row_cell (show (u64Row (l.map (·.id)))[j]? = some (.int .u64 nd.id) by simp [u64Row, Hnd.out])
            clear hs
            simp only [withM]
            repeat (go_big_quiet_step (fail))
            refine wpQuiet_nil ?_
            rfl
          case haSb => rfl
          case h0b => exact PbR.start Hs.out
          case hIb => exact fun ρ W2 h => h.rest
          case hRb => exact fun ρ W2 W3 h hb => h.same hb
          case hEb =>
            refine ⟨?e5b, ?e6b, ?e7b, trivial⟩
            case e5b =>
              intro o ho ρ W2 h hcl h5 hd2 af haf
              obtain rfl := Option.some.inj ho
              replace haf : af = fillD _ ρ [] _ := haf
              have h7 : ρ 7 = none := hcl.none (by simp) (show 5 ∈ [5, 6] by simp) h5
              obtain ⟨R', hs, hnext⟩ := h.e5 h5 h7
              simp only [fillD] at haf
              subst haf
              have Hn := Lib.hid hnext
              clear hnext hcl hd2 h5 h7 h
              go_wp2_with fail
              refine (QN.out _ _ hs).mono ?_
              rintro e W3 ⟨va3, rfl, hs'⟩
              obtain ⟨a3, c3, rfl, _, _⟩ := hs'.row_read
              have Hs' := Lib.hid hs'
              clear hs hs'
              go_wp2
              exact ⟨rfl, _, rfl, Hn.out _ _ W3 Hs'.out⟩
            case e6b =>
              intro o ho ρ W2 h hcl h6 hd2 af haf
              obtain rfl := Option.some.inj ho
              replace haf : af = fillD _ ρ [] _ := haf
              have h7 : ρ 7 = none := hcl.none (by simp) (show 6 ∈ [5, 6] by simp) h6
              have Hn := Lib.hid (h.e6 h6 h7)
              simp only [fillD] at haf
              subst haf
              clear hcl hd2 h6 h7 h
              go_wp2
              exact ⟨rfl, _, rfl, Hn.out⟩
            case e7b =>
              intro o ho ρ W2 h hcl h7 hd2 af haf
              obtain rfl := Option.some.inj ho
              replace haf : af = fillD _ ρ [5, 6] _ := haf
              obtain ⟨v5, h5⟩ := Option.isSome_iff_exists.1 (hd2 5 (by show _ ∈ [5, 6]; simp))
              obtain ⟨v6, h6⟩ := Option.isSome_iff_exists.1 (hd2 6 (by show _ ∈ [5, 6]; simp))
              obtain ⟨a3, c3, b3, R', rfl, rfl, hs, hnext⟩ := h.e7 h5 h6 h7
              simp only [fillD, h5, h6, Option.getD_some, dstAt, List.getElem?_cons_succ, List.getElem?_cons_zero, Option.bind_some, Option.bind_none, Act.put, List.setIfInBounds_toArray, List.set_cons_zero, List.set_cons_succ] at haf
              subst haf
              have k0 := hs.k0
              have f0 := hs.f0
              have hs := ((((hs.setL 0 (.int .i64 nd.pg.lev)).setL 1 (.slice a3 nd.pg.sl.length c3)).setL 2 (.string nd.pg.hi)).setL 3 (.bool nd.pg.la)).setL 4 (.int .u64 nd.pg.ri)
              have Hs3 := Lib.hid hs
              have Hn := Lib.hid hnext
              clear hs hnext hcl hd2 h h5 h6 h7
              go_wp2
              exact ⟨rfl, undef, rfl, Hn.out _ Hs3.out⟩
          case hQb =>
            intro ρ W2 h hall
            obtain ⟨a3, c3, b3, h5, h6, ⟨v7, h7⟩, hs⟩ := h.last hall
            simp only [fillD, h5, h6, h7, Option.getD_some, dstAt, List.getElem?_cons_succ, List.getElem?_cons_zero, Option.bind_some, Option.bind_none, Act.put, List.setIfInBounds_toArray, List.set_cons_zero, List.set_cons_succ]
            clear h hall h5 h6 h7
            go_upto_region 22 with (fail)
            go_cut [147] (fun v wx => v = .bool (!klt key' nd.low && (nd.pg.la || klt key' nd.pg.hi)) ∧ St K2 wx (rowC (.slice (some ⟨gl, 0, none⟩) (l.length + 1) cl) 9 1 (l.length + 1) (stRow (lowsOf l)) :: rowC (.slice (some ⟨ga, 0, none⟩) l.length ca) 23 1 l.length (u64Row (l.map (·.id))) :: memC bm bc L n :: blk bp (.cells #[.int .i64 (pg).lev, (.slice a1 pg.sl.length cap1), .string (pg).hi, .bool (pg).la, .int .u64 (pg).ri] 25) :: slC (.slice a1 pg.sl.length cap1) pg :: blk bv (.cells #[.int .i64 (d).th, .int .i64 (d).sn, .int .i64 (d).no, .int .i64 (d).ch, .int .i64 (d).re, .int .i64 (d).fa, .int .u64 (d).cl, .slice (some ⟨g, 0, none⟩) L.length L.length] 110) :: []))
            case first =>
              as_aux_lemma =>
              have kp := hs.k0
              have c1 := (show St K2 W2 (rowC _ _ _ _ _ :: _) from hs.b2).row_cell (show (stRow (lowsOf l))[j]? = some (.string nd.low) by simp [stRow, HW8.out j nd Hnd.out])
              have hs := hs.tail.tail
              rcases kle_cases nd.low key' with ⟨q1, q2, q3⟩ | ⟨q1, q2⟩ | ⟨q1, q2, q3⟩
              · go_wp2
                go_meet
                exact ⟨by rw [q1]; rfl, hs⟩
              · cases hla : nd.pg.la with
                | true =>
                  rw [hla] at kp
                  go_wp2
                  go_meet
                  exact ⟨by rw [q1, hla]; rfl, hs⟩
                | false =>
                  rw [hla] at kp
                  go_wp2
                  go_meet
                  exact ⟨by rw [q1, hla]; rfl, hs⟩
              · cases hla : nd.pg.la with
                | true =>
                  rw [hla] at kp
                  go_wp2
                  go_meet
                  exact ⟨by rw [q1, hla]; rfl, hs⟩
                | false =>
                  rw [hla] at kp
                  go_wp2
                  go_meet
                  exact ⟨by rw [q1, hla]; rfl, hs⟩
            case rest =>
            clear hs
            obtain ⟨rfl, hs⟩ := hcut
            obtain ⟨cnd, hcnd⟩ : ∃ cnd, cnd = (!klt key' nd.low && (nd.pg.la || klt key' nd.pg.hi)) := ⟨_, rfl⟩
            rw [← hcnd] at Hstep ⊢
            clear hcnd
            cases cnd with
            | false =>
              have hst : wv (j + 1) = wv j := Hstep.out
              have Hst := Lib.hid hst
              clear hst
              go_wp2
              go_roundw
              case rel => exact ⟨j + 1, by rw [Hst.out], by go_num, by omega, hs⟩
              case measure => simp [intOf]; omega
            | true =>
              have hst : wv (j + 1) = nd.id := Hstep.out
              have Hst := Lib.hid hst
              have c0 := (show St K2 wc (rowC _ _ _ _ _ :: _) from hs.b1).row_cell (show (u64Row (l.map (·.id)))[j]? = some (.int .u64 nd.id) by simp [u64Row, Hnd.out])
              clear hst
              go_wp2
              go_roundw
              case rel => exact ⟨j + 1, by rw [Hst.out], by go_num, by omega, hs⟩
              case measure => simp [intOf]; omega
        · obtain rfl : j = l.length := by omega
          have hfin : wv l.length = id := HW5.out.2.2
          rw [hfin]
          go_upto_region 24 with (fail)
          clear hfin
          rcases HW7.out with hz0 | ⟨hz0, nd, hn, hid, hpg⟩
          · have HsF := Lib.hid hs
            clear hs
            subst hz0
            refine region_pure (by kernel_rfl) (by as_aux_lemma => kernel_rfl) ?_
            repeat (go_big_quiet_step (fail))
            refine wpQuiet_nil ?_
            intro w11 hb11
            have hs := HsF.out.same hb11
            clear hb11
            go_wp2
            go_ret
            exact ⟨rfl, hs.below Hle.out⟩
          · have hid0 : (id == 0) = false := by rw [beq_eq_false_iff_ne]; exact hz0
            have q := QP.out nd hn
            rw [← hid, ← hpg] at q
            have QN := Lib.hid q
            have Hs := Lib.hid hs
            clear q hid hpg hn hz0 hs
            refine region_effectsK [false, false, false, false, false, false, false, false, false, false, true, true, false, false, false] (fun | 11 => some (.bool true) | _ => none) [10, 11] (fun | 11 => [10] | _ => [])
              (GR K2 (rowC (.slice al (l.length + 1) cl) 9 1 (l.length + 1) (stRow (lowsOf l)) :: rowC (.slice aa l.length ca) 23 1 l.length (u64Row (l.map (·.id))) :: memC bm bc L n :: blk bp (.cells #[.int .i64 (pg).lev, (.slice a1 pg.sl.length cap1), .string (pg).hi, .bool (pg).la, .int .u64 (pg).ri] 25) :: slC (.slice a1 pg.sl.length cap1) pg :: blk bv (.cells #[.int .i64 (d).th, .int .i64 (d).sn, .int .i64 (d).no, .int .i64 (d).ch, .int .i64 (d).re, .int .i64 (d).fa, .int .u64 (d).cl, .slice (some ⟨g, 0, none⟩) L.length L.length] 110) :: []) [10, 11] (PgΦ pg 10 11))
              (fun W => St K2 W (rowC (.slice al (l.length + 1) cl) 9 1 (l.length + 1) (stRow (lowsOf l)) :: rowC (.slice aa l.length ca) 23 1 l.length (u64Row (l.map (·.id))) :: memC bm bc L n :: blk bp (.cells #[.int .i64 (pg).lev, (.slice a1 pg.sl.length cap1), .string (pg).hi, .bool (pg).la, .int .u64 (pg).ri] 25) :: slC (.slice a1 pg.sl.length cap1) pg :: blk bv (.cells #[.int .i64 (d).th, .int .i64 (d).sn, .int .i64 (d).no, .int .i64 (d).ch, .int .i64 (d).re, .int .i64 (d).fa, .int .u64 (d).cl, .slice (some ⟨g, 0, none⟩) L.length L.length] 110) :: [])) ?aSf (by kernel_rfl) ?hBf ?Hf ?haSf ?h0f ?hIf ?hRf ?hEf ?hQf
            case hBf => as_aux_lemma => kernel_rfl
            case Hf =>
              intro W2 hs
              have kv := hs.tail.tail.tail.k2
              have kp := hs.tail.tail.k1
              clear hs
              simp only [withK]
              repeat (go_big_quiet_step (fail))
              refine wpQuiet_nil ?_
              rfl
            case haSf => rfl
            case h0f => exact GR.start Hs.out
            case hIf => exact fun ρ W2 h => h.rest
            case hRf => exact fun ρ W2 W3 h hb => h.same hb
            case hEf =>
              refine ⟨?e10f, ?e11f, trivial⟩
              case e10f =>
                intro o ho ρ W2 h hcl h10 hd2 af haf
                obtain rfl := Option.some.inj ho
                replace haf : af = fillD _ ρ [] _ := haf
                obtain ⟨C, R', h1, hs, hnext⟩ := h.step PgΦ.mono 10 [] (by decide) (by decide) (by decide) h10 (by simp)
                simp only [fillD] at haf
                subst haf
                have Hn := Lib.hid hnext
                clear hnext h1 h hcl hd2 h10
                go_wp2_with fail
                refine (QN.out _ _ hs).mono ?_
                rintro e W3 ⟨va8, rfl, hs'⟩
                obtain ⟨a8, c8, rfl, _, _⟩ := hs'.row_read
                have Hs' := Lib.hid hs'
                clear hs hs'
                go_wp2
                exact ⟨rfl, _, rfl, fun u hu => (by cases hu), Hn.out _ _ W3 ⟨a8, c8, rfl, rfl⟩ Hs'.out⟩
              case e11f =>
                intro o ho ρ W2 h hcl h11 hd2 af haf
                obtain rfl := Option.some.inj ho
                replace haf : af = fillD _ ρ [10] _ := haf
                obtain ⟨v10, h10⟩ := Option.isSome_iff_exists.1 (hd2 10 (by show _ ∈ [10]; simp))
                obtain ⟨cs8, R8, ⟨a8, c8, rfl, rfl⟩, hs8⟩ := h.at 10 (by simp) h10
                have s8 := hs8.row_slots (by omega)
                have sx := (show St K2 W2 (rowC (.slice a1 pg.sl.length cap1) 132 2 pg.sl.length (slRow pg.sl) :: _) from (h.rest).tail.tail.tail.tail).row_slots (by omega)
                have Q11 := Lib.hid (samePage_any (cap := cap1) (cap' := c8) W2 sx s8)
                have H := Lib.hid h
                have H11 := Lib.hid h11
                simp only [fillD, h10, Option.getD_some, dstAt, List.getElem?_cons_succ, List.getElem?_cons_zero, Option.bind_some, Option.bind_none, Act.put, List.setIfInBounds_toArray, List.set_cons_zero, List.set_cons_succ] at haf
                subst haf
                clear hs8 s8 sx h hcl hd2 h10 h11
                go_wp2_with fail
                refine (Q11.out).mono ?_
                rintro e W3 ⟨rfl, hb⟩
                have Hb := Lib.hid hb
                clear hb
                go_wp2
                exact ⟨rfl, _, rfl, fun u hu => Option.some.inj hu, (H.out.same Hb.out).know PgΦ.mono 11 (by decide) (by simp) H11.out _ ⟨rfl, rfl⟩⟩
            case hQf =>
              intro ρ W2 h hall
              have hs := h.rest
              clear h
              simp only [fillD, Option.getD_some, dstAt, List.getElem?_cons_succ, List.getElem?_cons_zero, Option.bind_some, Option.bind_none, Act.put, List.setIfInBounds_toArray, List.set_cons_zero, List.set_cons_succ]
              go_wp2
              go_ret
              exact ⟨rfl, hs.below Hle.out⟩
    · have hp2 : s'.pc ≠ 2 := by omega
      rw [decide_eq_false hp] at q
      have Q := Lib.hid q
      clear q
      go_wp2_with fail
      refine (Q.out).mono ?_
      clear Q
      rintro e w7 ⟨rfl, _, hI, ho⟩
      have HI := Lib.hid hI
      clear hI
      go_wp2
      go_roundw
      case rel => exact ⟨n + 1, q0 + 1, m - 1, s', by omega, Lib.hid (by have := Hq.out; omega), by go_num, hp2, HI, ho⟩
      case measure => simp [intOf]; omega
end Go.Proofs.Ytfgjanponijkhaa
