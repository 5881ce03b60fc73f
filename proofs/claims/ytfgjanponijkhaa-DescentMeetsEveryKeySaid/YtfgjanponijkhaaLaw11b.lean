/- The walk of DescentLevels. -/
import Derived.Test.YtfgjanponijkhaaLaw11a
import Derived.Test.YtfgjanponijkhaaTreeA
namespace Go.Proofs.Ytfgjanponijkhaa
open Go.RowKit
set_option maxRecDepth 100000
/-- What a law of layer 11 knows of its tree. -/
theorem tree_ex {w0 : World} {a : Option Addr} {len : Nat} {f : Nat → ByteArray} (cap : Nat) (fanout : Int) {sh : Int} (hide : Bool) (hz : StrsIn w0 a len f) (hsh : 0 ≤ sh ∧ sh < 18446744073709551616) :
    ∃ d : Cfg, Hid d.Ok ∧ Hid (d.fa = 4 + fanout % 3) ∧ Hid (∀ (w : World) (F : List Comp), St (Know.of w0) w F → Calls Try.prog 70 #[.slice a len cap, .int .i64 fanout, .int .u64 sh, .bool hide] w fun e w' => ∃ (bm bc : Nat) (L : List Cel) (t : List (List Nd)) (ks : List ByteArray) (ka : Option Addr) (kc : Nat),
      e = .returned (.tuple #[.agg #[.int .i64 (d).th, .int .i64 (d).sn, .int .i64 (d).no, .int .i64 (d).ch, .int .i64 (d).re, .int .i64 (d).fa, .int .u64 (d).cl], .agg #[.int .i64 (d).th, .int .i64 (d).sn, .int .i64 (d).no, .int .i64 (d).ch, .int .i64 (d).re, .int .i64 (d).fa, .int .u64 (d).cl], (.pointer (some ⟨bm, 0, none⟩)), .slice ka ks.length kc]) ∧ Hid (TreeX d ks hide L t ∧ KeysOk 40 ks) ∧ St (Know.of w0) w' (memC bm bc L 0 :: rowC (.slice ka ks.length kc) 9 1 ks.length (stRow ks) :: F)) :=
  ⟨kitC 1 (4 + fanout % 3) 1000, Lib.hid (kit8_ok fanout), Lib.hid rfl, Lib.hid (fun _ _ hs => tree_st hz hsh hs)⟩
theorem rows_ge : ∀ t : List (List Nd), (∀ l, l ∈ t → 0 < l.length) → t.length ≤ (t.map List.length).sum
  | [], _ => Nat.le_refl _
  | l :: t, h => by
    have := rows_ge t (fun x hx => h x (List.mem_cons_of_mem _ hx))
    have := h l List.mem_cons_self
    simp only [List.length_cons, List.map_cons, List.sum_cons]
    omega
theorem TreeOk.tall {d : Cfg} {L : List Cel} {t : List (List Nd)} (ht : TreeOk d L t) : t.length ≤ 100 := by
  refine Nat.le_trans (rows_ge t fun l hl => ?_) ht.count
  obtain ⟨k, hk⟩ := List.getElem?_of_mem hl
  exact (ht.rows k l hk).ne
/-- The number of levels of a tree. -/
theorem treeHeight_st {K : Know} {w : World} {F : List Comp} {d : Cfg} {L : List Cel} {t : List (List Nd)} {g : Nat} (hd : d.Ok) (ht : TreeOk d L t) (hl : (L.length : Int) = d.cells) (hg : K.map g = some (.cells (flat L).toArray 41)) (hs : St K w F) :
    Calls Try.prog 73 #[.agg #[.int .i64 (d).th, .int .i64 (d).sn, .int .i64 (d).no, .int .i64 (d).ch, .int .i64 (d).re, .int .i64 (d).fa, .int .u64 (d).cl, .slice (some ⟨g, 0, none⟩) L.length L.length]] w fun e w' => e = .returned (.int .i64 t.length) ∧ St K w' F := by
  have h4 := hd.cells_bd
  have hT := ht.tall
  have h0 := ht.ne
  obtain ⟨nd, h1, h2⟩ := ht.top
  have hn := ht.nodes _ _ h1 nd List.mem_cons_self
  have hlev := (ht.rows _ _ h1).lev nd List.mem_cons_self
  refine (viewHeight_st (pg := nd.pg) hd (by rw [h2]; exact hn.id.1) (by rw [h2]; exact hn.id.2) (by rw [h2]; exact hn.page) (by omega) hg (by omega) hs).mono ?_
  rintro e w' ⟨rfl, hs'⟩
  refine ⟨?_, hs'⟩
  rw [show nd.pg.lev + 1 = (t.length : Int) by omega]
/-- The node of the level below, while the levels are looked at. -/
def LvPrev (t : List (List Nd)) (key : ByteArray) (k : Nat) (la : Bool) (hi : ByteArray) : Prop :=
  k = 0 ∨ ∃ (l : List Nd) (i : Nat) (nd : Nd), k ≠ 0 ∧ t[k - 1]? = some l ∧ l[i]? = some nd ∧ la = nd.pg.la ∧ hi = nd.pg.hi ∧ klt key nd.low = false
set_option maxHeartbeats 8000000 in
theorem descentLevels_walk (a : Option Addr) (len cap : Nat) (f : Nat → ByteArray) (fanout sh : Int) (hide : Bool) (key : ByteArray) (hsh : 0 ≤ sh ∧ sh < 18446744073709551616) (_ : key.size ≤ maxLen) (w : World) (hz : StrsIn w a len f) :
    Calls Try.prog 13 #[.slice a len cap, .int .i64 fanout, .int .u64 sh, .bool hide, .string key] w fun e w' => e = .returned (.bool true) ∧ Below w.heap.size w w' := by
  obtain ⟨d, hd, hfa, Qt⟩ := tree_ex cap fanout hide hz hsh
  go_enter Try.func13, Try.ntmps13
  go_wp2_with fail
  refine (Qt.out _ _ (St.start w)).mono ?_
  rintro e w1 ⟨bm, bc, L, t, ks, ka, kc, rfl, HT, hs⟩
  have hs := (hs.made (.cells #[.int .i64 (d).th, .int .i64 (d).sn, .int .i64 (d).no, .int .i64 (d).ch, .int .i64 (d).re, .int .i64 (d).fa, .int .u64 (d).cl] 27)).made (.cells #[.int .i64 (d).th, .int .i64 (d).sn, .int .i64 (d).no, .int .i64 (d).ch, .int .i64 (d).re, .int .i64 (d).fa, .int .u64 (d).cl] 30)
  simp only [World.size_alloc] at hs
  obtain ⟨b0, hb0⟩ : ∃ b0, b0 = w1.heap.size := ⟨_, rfl⟩
  have QA := Lib.hid (fun (W : World) (cs : List Comp) (h : St (Know.of w) W cs) => awake11_st h)
  go_wp2_with fail
  rw [← hb0] at hs ⊢
  clear hb0
  refine (QA.out _ _ hs).mono ?_
  clear hs
  rintro e w2 ⟨rfl, hs⟩
  by_cases hkz : (100 : Int) < (key.size : Int)
  · have hkz := decide_eq_true hkz
    have q := QA.out _ _ hs
    have Q := Lib.hid q
    clear hs q
    go_wp2_with fail
    refine (Q.out).mono ?_
    rintro e w3 ⟨rfl, hs⟩
    go_wp2
    go_ret
    exact ⟨rfl, hs.below (Know.Le.refl _)⟩
  have hkz := decide_eq_false hkz
  have kb := hs.k1
  have q := kitView_st (d := d) (hs.re [2, 0, 1] rfl)
  have Q := Lib.hid q
  clear q hs
  go_wp2_with fail
  refine (Q.out).mono ?_
  clear Q kb
  rintro e w3 ⟨g, rfl, hle, hg, hs⟩
  obtain ⟨K2, hK2⟩ : ∃ K2, K2 = (Know.of w).add g (.cells (flat L).toArray 41) := ⟨_, rfl⟩
  rw [← hK2] at hle hg hs
  have Hg := Lib.hid hg
  have Hle := Lib.hid hle
  have hs := hs.made (.cells #[.int .i64 (d).th, .int .i64 (d).sn, .int .i64 (d).no, .int .i64 (d).ch, .int .i64 (d).re, .int .i64 (d).fa, .int .u64 (d).cl, .slice (some ⟨g, 0, none⟩) L.length L.length] 110)
  obtain ⟨bv, hbv⟩ : ∃ bv, bv = w3.heap.size := ⟨_, rfl⟩
  rw [← hbv] at hs
  have Hs := Lib.hid hs
  clear hK2 hg hle hs
  go_wp2_with fail
  rw [← hbv]
  clear hbv
  have QH := Lib.hid (fun W cs (h : St K2 W cs) => treeHeight_st hd.out HT.out.1.ok HT.out.1.clen Hg.out h)
  have QN := Lib.hid (fun W cs level (h : St K2 W cs) => newFind_st (d := d) (key := key) (level := level) h)
  go_loopw [16, 17, 18] (fun v16 v17 v18 wr => ∃ (k acc : Nat) (la : Bool) (hi : ByteArray), v18 = .int .i64 k ∧ v16 = .bool la ∧ v17 = .string hi ∧ k ≤ t.length ∧ acc ≤ k * 1101 ∧ Hid (LvPrev t key k la hi) ∧
    St K2 wr (memC bm bc L acc :: blk bv (.cells #[.int .i64 (d).th, .int .i64 (d).sn, .int .i64 (d).no, .int .i64 (d).ch, .int .i64 (d).re, .int .i64 (d).fa, .int .u64 (d).cl, .slice (some ⟨g, 0, none⟩) L.length L.length] 110) :: blk (b0 + 1) (.cells #[.int .i64 (d).th, .int .i64 (d).sn, .int .i64 (d).no, .int .i64 (d).ch, .int .i64 (d).re, .int .i64 (d).fa, .int .u64 (d).cl] 30) :: blk b0 (.cells #[.int .i64 (d).th, .int .i64 (d).sn, .int .i64 (d).no, .int .i64 (d).ch, .int .i64 (d).re, .int .i64 (d).fa, .int .u64 (d).cl] 27) :: rowC (.slice ka ks.length kc) 9 1 ks.length (stRow ks) :: [])) (fun _ _ v18 _ => t.length - (intOf v18).toNat)
  case atStart => exact ⟨0, 0, false, ⟨#[]⟩, rfl, rfl, rfl, by omega, by omega, Lib.hid (.inl rfl), Hs.out.re [1, 0, 2, 3, 4] rfl⟩
  case round =>
    clear Hs
    obtain ⟨k, acc, la, hi, rfl, rfl, rfl, hk, hacc, HP, hs⟩ := hrel
    have kv := hs.k1
    go_wp2_with fail
    refine (QH.out _ _ hs).mono ?_
    clear hs
    rintro e w4 ⟨rfl, hs⟩
    by_cases hkt : k < t.length
    · have hkt1 : decide ((k : Int) < (t.length : Int)) = true := decide_eq_true (by omega)
      have kl := hs.k2
      have q := QN.out _ _ k hs
      have Q := Lib.hid q
      clear hs q
      go_wp2_with fail
      refine (Q.out).mono ?_
      clear Q kv kl
      rintro e w5 ⟨b, rfl, hs⟩
      have ho : FdOn K2 b bm bc d L key k (blk bv (.cells #[.int .i64 (d).th, .int .i64 (d).sn, .int .i64 (d).no, .int .i64 (d).ch, .int .i64 (d).re, .int .i64 (d).fa, .int .u64 (d).cl, .slice (some ⟨g, 0, none⟩) L.length L.length] 110) :: blk (b0 + 1) (.cells #[.int .i64 (d).th, .int .i64 (d).sn, .int .i64 (d).no, .int .i64 (d).ch, .int .i64 (d).re, .int .i64 (d).fa, .int .u64 (d).cl] 30) :: blk b0 (.cells #[.int .i64 (d).th, .int .i64 (d).sn, .int .i64 (d).no, .int .i64 (d).ch, .int .i64 (d).re, .int .i64 (d).fa, .int .u64 (d).cl] 27) :: rowC (.slice ka ks.length kc) 9 1 ks.length (stRow ks) :: []) fd0 acc w5 := FdOn.start (fun B => hs B)
      clear hs
      go_wp2_with fail
      go_loopw [20] (fun vn wr => ∃ (n m : Nat) (s : FdS), n + m ≤ 1101 ∧ vn = .int .i64 n ∧ s.pc ≠ 2 ∧ Hid (FdInv d L t key k s m) ∧ FdOn K2 b bm bc d L key k (blk bv (.cells #[.int .i64 (d).th, .int .i64 (d).sn, .int .i64 (d).no, .int .i64 (d).ch, .int .i64 (d).re, .int .i64 (d).fa, .int .u64 (d).cl, .slice (some ⟨g, 0, none⟩) L.length L.length] 110) :: blk (b0 + 1) (.cells #[.int .i64 (d).th, .int .i64 (d).sn, .int .i64 (d).no, .int .i64 (d).ch, .int .i64 (d).re, .int .i64 (d).fa, .int .u64 (d).cl] 30) :: blk b0 (.cells #[.int .i64 (d).th, .int .i64 (d).sn, .int .i64 (d).no, .int .i64 (d).ch, .int .i64 (d).re, .int .i64 (d).fa, .int .u64 (d).cl] 27) :: rowC (.slice ka ks.length kc) 9 1 ks.length (stRow ks) :: []) s (acc + n) wr) (fun v _ => 1101 - (intOf v).toNat)
      case atStart =>
        have hns : nodeSteps d ≤ 11 := by unfold nodeSteps; have := hfa.out; omega
        have hc := Nat.mul_le_mul HT.out.1.ok.count hns
        exact ⟨0, _, fd0, by omega, rfl, by decide, Lib.hid FdInv.start, ho⟩
      case round =>
        clear ho
        obtain ⟨n, m, s, hnm, rfl, hpc, HI, ho⟩ := hrel
        have hm := (HI.out.step hd.out HT.out.1.cels HT.out.1.ok hpc).1
        have hTall := HT.out.1.ok.tall
        have q := findStep_inv hd.out HT.out.1.cels HT.out.1.ok (by omega) HI.out hpc ho
        generalize fdStep d L key k s = s' at q
        clear ho
        by_cases hp : 2 ≤ s'.pc
        · rw [decide_eq_true hp] at q
          have Q := Lib.hid q
          clear q
          go_wp2_with fail
          refine (Q.out).mono ?_
          clear Q
          rintro e w6 ⟨rfl, _, hI, hs⟩
          obtain ⟨h2, hr, _⟩ := hI.done hp
          obtain ⟨l, i, nd, hl, hi2, hid, hpg, hlow, hcov⟩ := hr hkt
          obtain ⟨⟨B, va, va2⟩, hs⟩ := hs
          obtain ⟨pc, id, pg, rd⟩ := s'
          simp only at h2 hid hpg
          subst h2 hid hpg
          have hlev := (HT.out.1.ok.rows k l hl).lev nd (List.mem_of_getElem? hi2)
          have hnd := HT.out.1.ok.nodes k l hl nd (List.mem_of_getElem? hi2)
          have hid0 : (nd.id == 0) = false := by
            have := hnd.id.1
            rw [beq_eq_false_iff_ne]
            omega
          have hs : St K2 w6 (fdL b .nilFunc B va va2 d key (k : Nat) ⟨2, nd.id, nd.pg, rd⟩ ++ (memC bm bc L (acc + n + 1) :: blk bv (.cells #[.int .i64 (d).th, .int .i64 (d).sn, .int .i64 (d).no, .int .i64 (d).ch, .int .i64 (d).re, .int .i64 (d).fa, .int .u64 (d).cl, .slice (some ⟨g, 0, none⟩) L.length L.length] 110) :: blk (b0 + 1) (.cells #[.int .i64 (d).th, .int .i64 (d).sn, .int .i64 (d).no, .int .i64 (d).ch, .int .i64 (d).re, .int .i64 (d).fa, .int .u64 (d).cl] 30) :: blk b0 (.cells #[.int .i64 (d).th, .int .i64 (d).sn, .int .i64 (d).no, .int .i64 (d).ch, .int .i64 (d).re, .int .i64 (d).fa, .int .u64 (d).cl] 27) :: rowC (.slice ka ks.length kc) 9 1 ks.length (stRow ks) :: [])) := hs
          have q1 := findNode_st rfl (show nd.pg.sl.length ≤ 1000000 by have := hnd.page.le; have := hd.out.fa2; omega) hs
          have Q := Lib.hid q1
          clear hs q1 hp
          go_wp2_with fail
          refine (Q.out).mono ?_
          clear Q
          rintro e w7 ⟨va', rfl, hs⟩
          obtain ⟨a1, cap1, hv, _, _⟩ := hs.row_read
          subst hv
          have hs := hs.made (.cells #[.int .i64 nd.pg.lev, .slice a1 nd.pg.sl.length cap1, .string nd.pg.hi, .bool nd.pg.la, .int .u64 nd.pg.ri] 25)
          obtain ⟨bp, hbp⟩ : ∃ bp, bp = w7.heap.size := ⟨_, rfl⟩
          rw [← hbp] at hs
          have kp := hs.k0
          have Hs := Lib.hid hs
          have Hlow := Lib.hid hlow
          have Hcov := Lib.hid hcov
          have Hl := Lib.hid hl
          have Hi := Lib.hid hi2
          clear hs hlow hcov hl hi2 hr hnd hpc
          rw [hlev] at kp Hs ⊢
          have Hnew : Hid (LvPrev t key (k + 1) nd.pg.la nd.pg.hi) := Lib.hid (.inr ⟨l, i, nd, by omega, Hl.out, Hi.out, rfl, rfl, Hlow.out⟩)
          rcases (show nd.pg.la = true ∧ k = 0 ∨ nd.pg.la = true ∧ 0 < k ∨ nd.pg.la = false ∧ k = 0 ∨ nd.pg.la = false ∧ 0 < k by
            rcases Nat.eq_zero_or_pos k with h | h <;> cases nd.pg.la <;> simp [h]) with ⟨hla, hk0⟩ | ⟨hla, hk0⟩ | ⟨hla, hk0⟩ | ⟨hla, hk0⟩
          · subst hk0
            rw [hla] at Hnew kp Hs ⊢
            go_upto_region 14 with (fail)
            rw [← hbp]
            go_upto_region 16 with (fail)
            refine region_pure (by kernel_rfl) (by as_aux_lemma => kernel_rfl) ?_
            repeat (go_big_quiet_step (fail))
            refine wpQuiet_nil ?_
            intro w8 hb8
            have Hs := Lib.hid (Hs.out.same hb8)
            go_wp2
            go_roundw
            case rel => exact ⟨0 + 1, acc + n + 1, _, nd.pg.hi, by go_num, rfl, rfl, by omega, by omega, Hnew, St.tail (St.tail (St.tail (St.tail Hs.out)))⟩
            case measure => simp [intOf]; omega
          · have hk1 : decide (0 < k) = true := decide_eq_true hk0
            rw [hla] at Hnew kp Hs ⊢
            go_upto_region 14 with (fail)
            rw [← hbp]
            go_upto_region 16 with (fail)
            refine region_pure (by kernel_rfl) (by as_aux_lemma => kernel_rfl) ?_
            repeat (go_big_quiet_step (fail))
            refine wpQuiet_nil ?_
            intro w8 hb8
            have Hs := Lib.hid (Hs.out.same hb8)
            go_wp2
            go_roundw
            case rel => exact ⟨k + 1, acc + n + 1, _, nd.pg.hi, by go_num, rfl, rfl, by omega, by omega, Hnew, St.tail (St.tail (St.tail (St.tail Hs.out)))⟩
            case measure => simp [intOf]; omega
          · have hc := Hcov.out
            rw [hla, Bool.false_or] at hc
            subst hk0
            rw [hla] at Hnew kp Hs ⊢
            go_upto_region 14 with (fail)
            rw [← hbp]
            go_upto_region 16 with (fail)
            refine region_pure (by kernel_rfl) (by as_aux_lemma => kernel_rfl) ?_
            repeat (go_big_quiet_step (fail))
            refine wpQuiet_nil ?_
            intro w8 hb8
            have Hs := Lib.hid (Hs.out.same hb8)
            go_wp2
            go_roundw
            case rel => exact ⟨0 + 1, acc + n + 1, _, nd.pg.hi, by go_num, rfl, rfl, by omega, by omega, Hnew, St.tail (St.tail (St.tail (St.tail Hs.out)))⟩
            case measure => simp [intOf]; omega
          · have hc := Hcov.out
            rw [hla, Bool.false_or] at hc
            obtain ⟨hla2, hhi⟩ : la = false ∧ klt nd.pg.hi hi = false := by
              rcases HP.out with h | ⟨l1, i1, n1, h1, h2, h3, h4, h5, h6⟩
              · omega
              · have := nest HT.out.1.ok h2 (by rw [show k - 1 + 1 = k by omega]; exact Hl.out) h3 Hi.out h6 hla hc
                rw [h4, h5]; exact this
            have hk1 : decide (0 < k) = true := decide_eq_true hk0
            cases e : klt hi nd.pg.hi with
            | true =>
              subst hla2
              rw [hla] at Hnew kp Hs ⊢
              go_upto_region 14 with (fail)
              rw [← hbp]
              go_upto_region 16 with (fail)
              refine region_pure (by kernel_rfl) (by as_aux_lemma => kernel_rfl) ?_
              repeat (go_big_quiet_step (fail))
              refine wpQuiet_nil ?_
              intro w8 hb8
              have Hs := Lib.hid (Hs.out.same hb8)
              go_wp2
              go_roundw
              case rel => exact ⟨k + 1, acc + n + 1, _, nd.pg.hi, by go_num, rfl, rfl, by omega, by omega, Hnew, St.tail (St.tail (St.tail (St.tail Hs.out)))⟩
              case measure => simp [intOf]; omega
            | false =>
              have e2 := klt_total e hhi
              have e3 : (hi.toList == nd.pg.hi.toList) = true := by rw [e2]; exact beq_self_eq_true _
              clear e2
              subst hla2
              rw [hla] at Hnew kp Hs ⊢
              go_upto_region 14 with (fail)
              rw [← hbp]
              go_upto_region 16 with (fail)
              refine region_pure (by kernel_rfl) (by as_aux_lemma => kernel_rfl) ?_
              repeat (go_big_quiet_step (fail))
              refine wpQuiet_nil ?_
              intro w8 hb8
              have Hs := Lib.hid (Hs.out.same hb8)
              go_wp2
              go_roundw
              case rel => exact ⟨k + 1, acc + n + 1, _, nd.pg.hi, by go_num, rfl, rfl, by omega, by omega, Hnew, St.tail (St.tail (St.tail (St.tail Hs.out)))⟩
              case measure => simp [intOf]; omega
        · have hp2 : s'.pc ≠ 2 := by omega
          rw [decide_eq_false hp] at q
          have Q := Lib.hid q
          clear q
          go_wp2_with fail
          refine (Q.out).mono ?_
          clear Q
          rintro e w6 ⟨rfl, _, hI, ho⟩
          have HI := Lib.hid hI
          clear hI
          go_wp2
          go_roundw
          case rel => exact ⟨n + 1, m - 1, s', by omega, by go_num, hp2, HI, ho⟩
          case measure => simp [intOf]; omega
    · obtain rfl : k = t.length := by omega
      have hkt1 : decide ((t.length : Int) < (t.length : Int)) = false := decide_eq_false (by omega)
      go_wp2
      go_ret
      exact ⟨rfl, hs.below Hle.out⟩
end Go.Proofs.Ytfgjanponijkhaa
