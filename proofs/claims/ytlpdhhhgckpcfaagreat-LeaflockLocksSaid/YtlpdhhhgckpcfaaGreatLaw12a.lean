
/- The walk of LeaflockLocks. -/
import Derived.Test.YtlpdhhhgckpcfaaGreatAw12
import Derived.Test.YtlpdhhhgckpcfaaGreatLaw11d
import Derived.Test.YtlpdhhhgckpcfaaGreatSameV
import Derived.Test.YtlpdhhhgckpcfaaGreatInsOut
namespace Go.Proofs.YtlpdhhhgckpcfaaGreat
open Go.RowKit
set_option maxRecDepth 100000
/-- What Lock has found, as Find says it. -/
theorem LoI.end {d : Cfg} {L : List Cel} {t : List (List Nd)} {key : ByteArray} {level : Nat} {s : LkS} {L1 : List Cel} {m : Nat} (ht : TreeOk d L t) (h : LoI d L t key level s L1 m) (h4 : 4 ≤ s.pc) :
    s.pc = 4 ∧ FdRes t key level ⟨2, s.h.id, s.h.pg, rd0⟩ ∧ ((s.h.id ≠ 0 ∧ ∃ nd, Cover t key level nd ∧ s.h = ⟨nd.id, ltLock 0, nd.pg⟩ ∧ L1 = latL d L nd) ∨ (s.h.id = 0 ∧ L1 = L)) := by
  rcases h with ⟨h, _⟩ | ⟨h, _⟩ | ⟨h, _⟩ | ⟨h, ⟨nd, hc, h2, h3⟩ | ⟨h1, h2, h3⟩⟩
  · omega
  · omega
  · omega
  · have hid := (hc.nd ht).id
    refine ⟨h, ?_, .inl ⟨by rw [h2]; show nd.id ≠ 0; omega, nd, hc, h2, h3⟩⟩
    obtain ⟨l, i, hl, hi, e1, e2⟩ := hc
    rw [h2]
    exact ⟨fun _ => ⟨l, i, nd, hl, hi, rfl, rfl, e1, e2⟩, fun hx => by have := (List.getElem?_eq_some_iff.1 hl).1; omega⟩
  · refine ⟨h, ?_, .inr ⟨by rw [h2]; rfl, h3⟩⟩
    rw [h2]
    exact ⟨fun hx => by omega, fun _ => ⟨rfl, rfl⟩⟩
def lwAt (l : List Nd) (j : Nat) : ByteArray := ((lowsOf l)[j]?).getD ⟨#[]⟩
set_option maxHeartbeats 8000000 in
theorem leaflockLocks_walk (a : Option Addr) (len cap : Nat) (f : Nat → ByteArray) (fanout sh : Int) (hide : Bool) (key : ByteArray) (at' level' : Int) (hsh : 0 ≤ sh ∧ sh < 18446744073709551616) (_ : key.size ≤ maxLen) (w : World) (hz : StrsIn w a len f) :
    Calls Tryz.prog 4 #[.slice a len cap, .int .i64 fanout, .int .u64 sh, .bool hide, .string key, .int .i64 at', .int .i64 level'] w fun e w' => e = .returned (.bool true) ∧ Below w.heap.size w w' := by
  obtain ⟨d, hd, hfa, hno, Q1, Q2⟩ : ∃ d : Cfg, Hid d.Ok ∧ Hid (d.fa = 4 + fanout % 3) ∧ Hid (100 ≤ d.no) ∧ Hid (∀ w, Calls Tryz.prog 12 #[.int .i64 1, .int .i64 fanout] w fun e w' => e = .returned (.agg #[.int .i64 d.th, .int .i64 d.sn, .int .i64 d.no, .int .i64 d.ch, .int .i64 d.re, .int .i64 d.fa, .int .u64 d.cl]) ∧ Below w.heap.size w w') ∧ Hid (∀ w K cs, St K w cs → Calls Tryz.prog 13 #[.agg #[.int .i64 d.th, .int .i64 d.sn, .int .i64 d.no, .int .i64 d.ch, .int .i64 d.re, .int .i64 d.fa, .int .u64 d.cl]] w fun e w'' => ∃ bm bc, e = .returned (.tuple #[.agg #[.int .i64 d.th, .int .i64 d.sn, .int .i64 d.no, .int .i64 d.ch, .int .i64 d.re, .int .i64 d.fa, .int .u64 d.cl], (.pointer (some ⟨bm, 0, none⟩))]) ∧ St K w'' (memC bm bc (startL d) 0 :: cs)) :=
    ⟨kitC 1 (4 + fanout % 3) 1000, Lib.hid (kit8_ok fanout), Lib.hid rfl, Lib.hid (by simp [kitC]), Lib.hid (fun w => kitConfig_any 1 fanout w), Lib.hid (fun w K cs hs => kitMemory_st (kit8_ok fanout) hs)⟩
  have Hz := Lib.hid hz
  have QA := Lib.hid (fun (W : World) (cs : List Comp) (h : St (Know.of w) W cs) => awake12_st h)
  have hs := St.start w
  go_enter Tryz.func4, Tryz.ntmps4
  go_wp2_with fail
  refine (calls_same hs (Q1.out _)).mono ?_
  clear hs
  rintro e w1 ⟨rfl, hs⟩
  have hs := hs.made (.cells #[.int .i64 (d).th, .int .i64 (d).sn, .int .i64 (d).no, .int .i64 (d).ch, .int .i64 (d).re, .int .i64 (d).fa, .int .u64 (d).cl] 26)
  obtain ⟨b0, hb0⟩ : ∃ b, b = w1.heap.size := ⟨_, rfl⟩
  have kc := hs.k0
  go_wp2_with fail
  rw [← hb0] at hs kc ⊢
  clear hb0
  refine (Q2.out _ _ _ hs).mono ?_
  clear hs kc
  rintro e w2 ⟨bm, bc, rfl, hs⟩
  have hs := hs.made (.cells #[.int .i64 (d).th, .int .i64 (d).sn, .int .i64 (d).no, .int .i64 (d).ch, .int .i64 (d).re, .int .i64 (d).fa, .int .u64 (d).cl] 29)
  obtain ⟨b1, hb1⟩ : ∃ b, b = w2.heap.size := ⟨_, rfl⟩
  go_wp2_with fail
  rw [← hb1] at hs ⊢
  clear hb1
  refine (QA.out _ _ hs).mono ?_
  clear hs
  rintro e w3 ⟨rfl, hs⟩
  by_cases hkz : (100 : Int) < (key.size : Int)
  · have hkz := decide_eq_true hkz
    have q := QA.out _ _ hs
    have Q := Lib.hid q
    clear hs q
    go_wp2_with fail
    refine (Q.out).mono ?_
    rintro e w3 ⟨rfl, hs⟩
    go_wp2
    go_ret
    exact ⟨rfl, hs.below (Know.Le.refl _)⟩
  have hkz := decide_eq_false hkz
  have qk := keys_st (a := a) (len := len) (cap := cap) (f := f) (most := 40) Hz.out (by omega) hs
  have QK := Lib.hid qk
  clear qk
  go_wp2_with fail
  refine (QK.out).mono ?_
  clear hs QK hkz
  rintro e w4 ⟨v, ks, rfl, HK, hs⟩
  obtain ⟨ka, kc, rfl, _, _⟩ := hs.row_read
  have kc3 := hs.b3.k0
  have hs : St (Know.of w) w4 (memC bm bc (startL d) 0 :: rowC (.slice ka ks.length kc) 9 1 ks.length (stRow ks) :: blk b1 (.cells #[.int .i64 (d).th, .int .i64 (d).sn, .int .i64 (d).no, .int .i64 (d).ch, .int .i64 (d).re, .int .i64 (d).fa, .int .u64 (d).cl] 29) :: blk b0 (.cells #[.int .i64 (d).th, .int .i64 (d).sn, .int .i64 (d).no, .int .i64 (d).ch, .int .i64 (d).re, .int .i64 (d).fa, .int .u64 (d).cl] 26) :: []) := hs.re [2, 0, 1, 3] rfl
  have qp := plant_st (hide := hide) hd.out hno.out HK.out (start_page hd.out).2.2.1 (start_page hd.out).2.2.2 (start_lat hd.out) hsh hs
  have QP := Lib.hid qp
  clear qp
  go_wp2_with fail
  refine (QP.out).mono ?_
  clear hs QP kc3
  rintro e w5 ⟨t, L, rfl, HT0, hs⟩
  have HT : Hid (TreeX d ks hide L t ∧ KeysOk 40 ks) := Lib.hid ⟨HT0.out, HK.out⟩
  have hs : St (Know.of w) w5 [blk b1 (.cells #[.int .i64 (d).th, .int .i64 (d).sn, .int .i64 (d).no, .int .i64 (d).ch, .int .i64 (d).re, .int .i64 (d).fa, .int .u64 (d).cl] 29), blk b0 (.cells #[.int .i64 (d).th, .int .i64 (d).sn, .int .i64 (d).no, .int .i64 (d).ch, .int .i64 (d).re, .int .i64 (d).fa, .int .u64 (d).cl] 26), memC bm bc L 0, rowC (.slice ka ks.length kc) 9 1 ks.length (stRow ks)] := hs.re [2, 3, 0, 1] rfl
  go_upto_region 7 with (fail)
  go_cut [67] from 999 to 0 (fun v50 wx => ∃ c1 : Bool, v50 = .bool c1 ∧ Hid (c1 = true → 0 < ks.length) ∧ St (Know.of w) wx [blk b1 (.cells #[.int .i64 (d).th, .int .i64 (d).sn, .int .i64 (d).no, .int .i64 (d).ch, .int .i64 (d).re, .int .i64 (d).fa, .int .u64 (d).cl] 29), blk b0 (.cells #[.int .i64 (d).th, .int .i64 (d).sn, .int .i64 (d).no, .int .i64 (d).ch, .int .i64 (d).re, .int .i64 (d).fa, .int .u64 (d).cl] 26), memC bm bc L 0, rowC (.slice ka ks.length kc) 9 1 ks.length (stRow ks)])
  case first =>
    as_aux_lemma =>
    by_cases hk0 : 0 < ks.length
    · go_wp2
      go_meet
      exact ⟨_, rfl, Lib.hid (fun _ => hk0), hs⟩
    · go_wp2
      go_meet
      exact ⟨_, rfl, Lib.hid (fun h => by simp at h), hs⟩
  case rest =>
  clear hs
  obtain ⟨c1, rfl, Hc1, hs⟩ := hcut
  apply_assumption
  go_cut [4] from 32 to 67 (fun v3 wx => ∃ key' : ByteArray, v3 = .string key' ∧ St (Know.of w) wx [blk b1 (.cells #[.int .i64 (d).th, .int .i64 (d).sn, .int .i64 (d).no, .int .i64 (d).ch, .int .i64 (d).re, .int .i64 (d).fa, .int .u64 (d).cl] 29), blk b0 (.cells #[.int .i64 (d).th, .int .i64 (d).sn, .int .i64 (d).no, .int .i64 (d).ch, .int .i64 (d).re, .int .i64 (d).fa, .int .u64 (d).cl] 26), memC bm bc L 0, rowC (.slice ka ks.length kc) 9 1 ks.length (stRow ks)])
  case first =>
    as_aux_lemma =>
    cases c1 with
    | false =>
      go_wp2
      go_meet
      exact ⟨key, rfl, hs⟩
    | true =>
      have hk0 := Hc1.out rfl
      have hk40 := HT.out.2.len
      obtain ⟨i, hi, hi2⟩ : ∃ i : Nat, at' % (ks.length : Int) = i ∧ i < ks.length := ⟨(at' % (ks.length : Int)).toNat, by have := Int.emod_nonneg at' (show (ks.length : Int) ≠ 0 by omega); omega, by have := Int.emod_lt_of_pos at' (show (0 : Int) < ks.length by omega); omega⟩
      have q := fun w => mod_any at' ks.length (by omega) (by omega) w
      rw [hi] at q
      have Q := Lib.hid q
      obtain ⟨g, rfl, hc⟩ := hs.b3.row_at (show (stRow ks)[i]? = some (.string ks[i]) by simp [stRow, hi2])
      have Hi2 := Lib.hid hi2
      clear q hi
      go_wp2_with fail
      refine (Q.out _).mono ?_
      rintro e w3 ⟨rfl, rfl⟩
      go_wp2
      go_meet
      exact ⟨_, rfl, hs⟩
  case rest =>
  clear hs Hc1 c1
  obtain ⟨key', rfl, hs⟩ := hcut
  apply_assumption
  as_aux_lemma =>
  have kb := hs.k1
  have q := kitView_st (d := d) (hs.re [2, 0, 1] rfl)
  have Q := Lib.hid q
  clear q hs
  go_wp2_with fail
  refine (Q.out).mono ?_
  clear Q kb
  rintro e w6 ⟨g, rfl, hle, hg, hs⟩
  obtain ⟨K2, hK2⟩ : ∃ K2, K2 = (Know.of w).add g (.cells (flat L).toArray 63) := ⟨_, rfl⟩
  rw [← hK2] at hle hg hs
  have Hg := Lib.hid hg
  have Hle := Lib.hid hle
  have hs := hs.made (.cells #[.int .i64 (d).th, .int .i64 (d).sn, .int .i64 (d).no, .int .i64 (d).ch, .int .i64 (d).re, .int .i64 (d).fa, .int .u64 (d).cl, .slice (some ⟨g, 0, none⟩) L.length L.length] 52)
  obtain ⟨bv, hbv⟩ : ∃ bv, bv = w6.heap.size := ⟨_, rfl⟩
  rw [← hbv] at hs
  have hs := hs.re [1, 0] rfl
  have kv := hs.k1
  have q := treeHeight_st hd.out HT.out.1.ok HT.out.1.clen hg hs
  have Q := Lib.hid q
  have hTall := HT.out.1.ok.tall
  clear hK2 hg hle hs q
  go_wp2_with fail
  rw [← hbv]
  clear hbv
  refine (Q.out).mono ?_
  clear Q kv
  rintro e w7 ⟨rfl, hs⟩
  have hw1 : wrap64 ((t.length : Int) + 1) = ((t.length + 1 : Nat) : Int) := by rw [wrap64_idn (by omega) (by omega)]; rfl
  obtain ⟨k, hk, hk2⟩ : ∃ k : Nat, level' % ((t.length + 1 : Nat) : Int) = k ∧ k ≤ t.length := ⟨(level' % ((t.length + 1 : Nat) : Int)).toNat, by have := Int.emod_nonneg level' (show ((t.length + 1 : Nat) : Int) ≠ 0 by omega); omega, by have := Int.emod_lt_of_pos level' (show (0 : Int) < ((t.length + 1 : Nat) : Int) by omega); omega⟩
  have q := fun w => mod_any level' ((t.length + 1 : Nat) : Int) (by omega) (by omega) w
  rw [hk] at q
  have Q := Lib.hid q
  clear q hk
  go_wp2_with fail
  refine (Q.out _).mono ?_
  clear Q hw1
  rintro e w8 ⟨rfl, rfl⟩
  have kl := hs.k2
  have q := newLock_st (d := d) (key := key') (level := (k : Int)) hs
  have Q := Lib.hid q
  clear hs q
  go_wp2_with fail
  refine (Q.out).mono ?_
  clear Q kl
  rintro e w9 ⟨b, C0, rfl, hr0, hs⟩
  have ho : LoOn K2 b bm bc d L key' k (blk bv (.cells #[.int .i64 (d).th, .int .i64 (d).sn, .int .i64 (d).no, .int .i64 (d).ch, .int .i64 (d).re, .int .i64 (d).fa, .int .u64 (d).cl, .slice (some ⟨g, 0, none⟩) L.length L.length] 52) :: blk b1 (.cells #[.int .i64 (d).th, .int .i64 (d).sn, .int .i64 (d).no, .int .i64 (d).ch, .int .i64 (d).re, .int .i64 (d).fa, .int .u64 (d).cl] 29) :: blk b0 (.cells #[.int .i64 (d).th, .int .i64 (d).sn, .int .i64 (d).no, .int .i64 (d).ch, .int .i64 (d).re, .int .i64 (d).fa, .int .u64 (d).cl] 26) :: rowC (.slice ka ks.length kc) 9 1 ks.length (stRow ks) :: []) lok0 0 w9 := ⟨C0, hr0, hs⟩
  clear hs hr0
  go_wp2_with fail
  go_loopw [21] (fun vn wr => ∃ (n q m : Nat) (s : LkS), n + m ≤ 1130 ∧ Hid (q + 1 = n) ∧ vn = .int .i64 n ∧ s.pc ≠ 4 ∧ Hid (∃ L1, LoI d L t key' k s L1 m ∧ LoOn K2 b bm bc d L1 key' k (blk bv (.cells #[.int .i64 (d).th, .int .i64 (d).sn, .int .i64 (d).no, .int .i64 (d).ch, .int .i64 (d).re, .int .i64 (d).fa, .int .u64 (d).cl, .slice (some ⟨g, 0, none⟩) L.length L.length] 52) :: blk b1 (.cells #[.int .i64 (d).th, .int .i64 (d).sn, .int .i64 (d).no, .int .i64 (d).ch, .int .i64 (d).re, .int .i64 (d).fa, .int .u64 (d).cl] 29) :: blk b0 (.cells #[.int .i64 (d).th, .int .i64 (d).sn, .int .i64 (d).no, .int .i64 (d).ch, .int .i64 (d).re, .int .i64 (d).fa, .int .u64 (d).cl] 26) :: rowC (.slice ka ks.length kc) 9 1 ks.length (stRow ks) :: []) s q wr)) (fun v _ => 1130 - (intOf v).toNat)
  case atStart =>
    have hns : nodeSteps d ≤ 11 := by unfold nodeSteps; have := hfa.out; omega
    have hc := Nat.mul_le_mul HT.out.1.ok.count hns
    exact ⟨1, 0, 1120, lok0, by omega, Lib.hid rfl, rfl, by decide, Lib.hid ⟨L, LoI.start 1120 (by have := hfa.out; omega), ho⟩⟩
  case round =>
    clear ho
    obtain ⟨n, q0, m, s, hnm, Hq, rfl, hpc, HI⟩ := hrel
    obtain ⟨L1, hI, ho⟩ := HI.out
    obtain ⟨g1, g2, g3, g4, g5⟩ := hI.step hd.out HT.out.1.cels HT.out.1.clen HT.out.1.ok hpc
    have q := lockStep_on hd.out g4 (by have := Hq.out; omega) g2 g3 ho
    generalize (lokStep d key' (k : Int) L1 s).2 = L2 at *
    generalize (lokStep d key' (k : Int) L1 s).1 = s' at *
    clear ho g2 g3 g4 hI HI
    by_cases hp : 4 ≤ s'.pc
    · rw [decide_eq_true hp] at q
      have Q := Lib.hid q
      clear q
      obtain ⟨h4, hr, hfin⟩ := g5.end HT.out.1.ok hp
      obtain ⟨l, wv, W1, W2, W3, W4, W5, W6, W7, W8, W9⟩ := want_of hd.out HT.out.1.ok hr hk2
      have H4 := Lib.hid h4
      have HW1 := Lib.hid W1
      have HW3 := Lib.hid W3
      have HW5 := Lib.hid (And.intro W4 (And.intro W5 W6))
      have HW8 := Lib.hid W8
      have Hfin := Lib.hid hfin
      clear g5 hr hfin W1 W3 W4 W5 W6 W7 W8 h4
      go_wp2_with fail
      refine (Q.out).mono ?_
      clear Q
      rintro e w10 ⟨rfl, ho⟩
      obtain ⟨a0, c0, hs⟩ := ho.done H4.out
      rw [Hq.out] at hs
      obtain ⟨pc, fd, id', aq, ow, h0⟩ := s'
      simp only at hs Hfin HW5 W9 hp
      clear ho H4 hp hpc
      as_aux_lemma =>
      have q := lockHeld_st W9 hs
      have Q := Lib.hid q
      clear q hs
      go_wp2_with fail
      refine (Q.out).mono ?_
      clear Q
      rintro e w11 ⟨va, rfl, hs⟩
      obtain ⟨ah, ch, rfl, _, _⟩ := hs.row_read
      have hs := hs.made (.cells #[.int .u64 (h0).id, .int .u64 (h0).word, .int .i64 (h0).pg.lev, (.slice ah h0.pg.sl.length ch), .string (h0).pg.hi, .bool (h0).pg.la, .int .u64 (h0).pg.ri] 45)
      obtain ⟨b22, hb22⟩ : ∃ b, b = w11.heap.size := ⟨_, rfl⟩
      rw [← hb22] at hs
      have hs : St K2 _ (blk b0 (.cells #[.int .i64 (d).th, .int .i64 (d).sn, .int .i64 (d).no, .int .i64 (d).ch, .int .i64 (d).re, .int .i64 (d).fa, .int .u64 (d).cl] 26) :: memC bm bc L2 n :: blk b22 (.cells #[.int .u64 (h0).id, .int .u64 (h0).word, .int .i64 (h0).pg.lev, (.slice ah h0.pg.sl.length ch), .string (h0).pg.hi, .bool (h0).pg.la, .int .u64 (h0).pg.ri] 45) :: slC (.slice ah h0.pg.sl.length ch) h0.pg :: blk bv (.cells #[.int .i64 (d).th, .int .i64 (d).sn, .int .i64 (d).no, .int .i64 (d).ch, .int .i64 (d).re, .int .i64 (d).fa, .int .u64 (d).cl, .slice (some ⟨g, 0, none⟩) L.length L.length] 52) :: blk b1 (.cells #[.int .i64 (d).th, .int .i64 (d).sn, .int .i64 (d).no, .int .i64 (d).ch, .int .i64 (d).re, .int .i64 (d).fa, .int .u64 (d).cl] 29) :: []) := (hs.re [2, 3, 8, 7, 4, 0, 1, 5, 6] rfl).tail.tail.tail
      go_upto_region 17 with (fail)
      rw [← hb22]
      clear hb22
      refine wp_ck hs ?_
      clear hs
      intro w12 hs
      have hL : L.length ≤ 1000000 := by have := HT.out.1.clen; have := hd.out.cells_bd; omega
      have kv := hs.b4.k0
      have q := viewLevel_st hd.out hno.out HT.out.1.ok hk2 Hg.out hL hs
      rw [HW1.out] at q
      simp only [List.length_map] at q
      have Q := Lib.hid q
      clear q hs
      go_wp2_with fail
      refine (Q.out).mono ?_
      clear Q kv
      rintro e w13 ⟨v, rfl, hs⟩
      obtain ⟨aa, ca, rfl, _, _⟩ := hs.row_read
      have Hwv0 : Hid (wv 0 = 0) := Lib.hid HW5.out.1
      have QP := Lib.hid (fun (nd : Nd) (hn : nd ∈ l) W cs (h : St K2 W cs) => viewPage_st hd.out (HW3.out nd hn).id.1 (HW3.out nd hn).id.2 (HW3.out nd hn).page Hg.out hL h)
      go_wp2
      go_loopw [23, 24, 26, 27] (fun v23 v24 v26 _ wr => ∃ j : Nat, v23 = .int .u64 (wv j) ∧ v24 = .string (lwAt l j) ∧ v26 = .int .i64 j ∧ j ≤ l.length ∧ St K2 wr (rowC (.slice aa l.length ca) 23 1 l.length (u64Row (l.map (·.id))) :: blk b0 (.cells #[.int .i64 (d).th, .int .i64 (d).sn, .int .i64 (d).no, .int .i64 (d).ch, .int .i64 (d).re, .int .i64 (d).fa, .int .u64 (d).cl] 26) :: memC bm bc L2 n :: blk b22 (.cells #[.int .u64 (h0).id, .int .u64 (h0).word, .int .i64 (h0).pg.lev, (.slice ah h0.pg.sl.length ch), .string (h0).pg.hi, .bool (h0).pg.la, .int .u64 (h0).pg.ri] 45) :: slC (.slice ah h0.pg.sl.length ch) h0.pg :: blk bv (.cells #[.int .i64 (d).th, .int .i64 (d).sn, .int .i64 (d).no, .int .i64 (d).ch, .int .i64 (d).re, .int .i64 (d).fa, .int .u64 (d).cl, .slice (some ⟨g, 0, none⟩) L.length L.length] 52) :: blk b1 (.cells #[.int .i64 (d).th, .int .i64 (d).sn, .int .i64 (d).no, .int .i64 (d).ch, .int .i64 (d).re, .int .i64 (d).fa, .int .u64 (d).cl] 29) :: [])) (fun _ _ v _ _ => l.length - (intOf v).toNat)
      case atStart => exact ⟨0, by rw [Hwv0.out], rfl, rfl, by omega, hs⟩
      case round =>
        clear hs
        obtain ⟨j, rfl, rfl, rfl, hj, hs⟩ := hrel
        by_cases hjl : j < l.length
        · obtain ⟨nd, hnd⟩ : ∃ nd, l[j]? = some nd := ⟨_, List.getElem?_eq_getElem hjl⟩
          have Hnd := Lib.hid hnd
          have hlw : lwAt l j = nd.low := by unfold lwAt; rw [HW8.out j nd hnd]; rfl
          have hlw2 : lwAt l (j + 1) = nd.pg.hi := by
            unfold lwAt lowsOf
            rw [List.getElem?_cons_succ, List.getElem?_map, hnd]; rfl
          rw [hlw]
          have Hlw2 := Lib.hid hlw2
          have QN := Lib.hid (QP.out nd (List.mem_of_getElem? hnd))
          obtain ⟨ga, hga, _⟩ := hs.row_at (show (u64Row (l.map (·.id)))[j]? = some (.int .u64 nd.id) by simp [u64Row, hnd])
          subst hga
          have Hstep := Lib.hid (HW5.out.2.1 j nd hnd)
          clear hnd hlw hlw2
          go_upto_region 21 with (fail)
          have Hs := Lib.hid hs
          clear hs
          refine region_effects [false, false, false, false, false, true, true, true] [5, 6, 7] (fun | 7 => [5, 6] | _ => [])
            (PbR K2 (rowC (.slice (some ⟨ga, 0, none⟩) l.length ca) 23 1 l.length (u64Row (l.map (·.id))) :: blk b0 (.cells #[.int .i64 (d).th, .int .i64 (d).sn, .int .i64 (d).no, .int .i64 (d).ch, .int .i64 (d).re, .int .i64 (d).fa, .int .u64 (d).cl] 26) :: memC bm bc L2 n :: blk b22 (.cells #[.int .u64 (h0).id, .int .u64 (h0).word, .int .i64 (h0).pg.lev, (.slice ah h0.pg.sl.length ch), .string (h0).pg.hi, .bool (h0).pg.la, .int .u64 (h0).pg.ri] 45) :: slC (.slice ah h0.pg.sl.length ch) h0.pg :: blk bv (.cells #[.int .i64 (d).th, .int .i64 (d).sn, .int .i64 (d).no, .int .i64 (d).ch, .int .i64 (d).re, .int .i64 (d).fa, .int .u64 (d).cl, .slice (some ⟨g, 0, none⟩) L.length L.length] 52) :: blk b1 (.cells #[.int .i64 (d).th, .int .i64 (d).sn, .int .i64 (d).no, .int .i64 (d).ch, .int .i64 (d).re, .int .i64 (d).fa, .int .u64 (d).cl] 29) :: []) nd.pg)
            (fun W => St K2 W (rowC (.slice (some ⟨ga, 0, none⟩) l.length ca) 23 1 l.length (u64Row (l.map (·.id))) :: blk b0 (.cells #[.int .i64 (d).th, .int .i64 (d).sn, .int .i64 (d).no, .int .i64 (d).ch, .int .i64 (d).re, .int .i64 (d).fa, .int .u64 (d).cl] 26) :: memC bm bc L2 n :: blk b22 (.cells #[.int .u64 (h0).id, .int .u64 (h0).word, .int .i64 (h0).pg.lev, (.slice ah h0.pg.sl.length ch), .string (h0).pg.hi, .bool (h0).pg.la, .int .u64 (h0).pg.ri] 45) :: slC (.slice ah h0.pg.sl.length ch) h0.pg :: blk bv (.cells #[.int .i64 (d).th, .int .i64 (d).sn, .int .i64 (d).no, .int .i64 (d).ch, .int .i64 (d).re, .int .i64 (d).fa, .int .u64 (d).cl, .slice (some ⟨g, 0, none⟩) L.length L.length] 52) :: blk b1 (.cells #[.int .i64 (d).th, .int .i64 (d).sn, .int .i64 (d).no, .int .i64 (d).ch, .int .i64 (d).re, .int .i64 (d).fa, .int .u64 (d).cl] 29) :: [])) ?aSb (by kernel_rfl) ?hBb ?Hb ?haSb ?h0b ?hIb ?hRb ?hEb ?hQb
          case hBb => as_aux_lemma => kernel_rfl
          case Hb =>
            intro W2 hs
            have kv := hs.b5.k0
            have c0 := hs.row_cell (show (u64Row (l.map (·.id)))[j]? = some (.int .u64 nd.id) by simp [u64Row, Hnd.out])
            clear hs
            simp only [withM]
            repeat (go_big_quiet_step (fail))
            refine wpQuiet_nil ?_
            rfl
          case haSb => rfl
          case h0b => exact PbR.start Hs.out
          case hIb => exact fun ρ W2 h => h.rest
          case hRb => exact fun ρ W2 W3 h hb => h.same hb
          case hEb =>
            refine ⟨?e5b, ?e6b, ?e7b, trivial⟩
            case e5b =>
              intro o ho ρ W2 h hcl h5 hd2 af haf
              obtain rfl := Option.some.inj ho
              replace haf : af = fillD _ ρ [] _ := haf
              have h7 : ρ 7 = none := hcl.none (by simp) (show 5 ∈ [5, 6] by simp) h5
              obtain ⟨R', hs, hnext⟩ := h.e5 h5 h7
              simp only [fillD] at haf
              subst haf
              have Hn := Lib.hid hnext
              clear hnext hcl hd2 h5 h7 h
              go_wp2_with fail
              refine (QN.out _ _ hs).mono ?_
              rintro e W3 ⟨va3, rfl, hs'⟩
              obtain ⟨a3, c3, rfl, _, _⟩ := hs'.row_read
              have Hs' := Lib.hid hs'
              clear hs hs'
              go_wp2
              exact ⟨rfl, _, rfl, Hn.out _ _ W3 Hs'.out⟩
            case e6b =>
              intro o ho ρ W2 h hcl h6 hd2 af haf
              obtain rfl := Option.some.inj ho
              replace haf : af = fillD _ ρ [] _ := haf
              have h7 : ρ 7 = none := hcl.none (by simp) (show 6 ∈ [5, 6] by simp) h6
              have Hn := Lib.hid (h.e6 h6 h7)
              simp only [fillD] at haf
              subst haf
              clear hcl hd2 h6 h7 h
              go_wp2
              exact ⟨rfl, _, rfl, Hn.out⟩
            case e7b =>
              intro o ho ρ W2 h hcl h7 hd2 af haf
              obtain rfl := Option.some.inj ho
              replace haf : af = fillD _ ρ [5, 6] _ := haf
              obtain ⟨v5, h5⟩ := Option.isSome_iff_exists.1 (hd2 5 (by show _ ∈ [5, 6]; simp))
              obtain ⟨v6, h6⟩ := Option.isSome_iff_exists.1 (hd2 6 (by show _ ∈ [5, 6]; simp))
              obtain ⟨a3, c3, b3, R', rfl, rfl, hs, hnext⟩ := h.e7 h5 h6 h7
              simp only [fillD, h5, h6, Option.getD_some, dstAt, List.getElem?_cons_succ, List.getElem?_cons_zero, Option.bind_some, Option.bind_none, Act.put, List.setIfInBounds_toArray, List.set_cons_zero, List.set_cons_succ] at haf
              subst haf
              have k0 := hs.k0
              have f0 := hs.f0
              have hs := ((((hs.setL 0 (.int .i64 nd.pg.lev)).setL 1 (.slice a3 nd.pg.sl.length c3)).setL 2 (.string nd.pg.hi)).setL 3 (.bool nd.pg.la)).setL 4 (.int .u64 nd.pg.ri)
              have Hs3 := Lib.hid hs
              have Hn := Lib.hid hnext
              clear hs hnext hcl hd2 h h5 h6 h7
              go_wp2
              exact ⟨rfl, undef, rfl, Hn.out _ Hs3.out⟩
          case hQb =>
            intro ρ W2 h hall
            obtain ⟨a3, c3, b3, h5, h6, ⟨v7, h7⟩, hs⟩ := h.last hall
            simp only [fillD, h5, h6, h7, Option.getD_some, dstAt, List.getElem?_cons_succ, List.getElem?_cons_zero, Option.bind_some, Option.bind_none, Act.put, List.setIfInBounds_toArray, List.set_cons_zero, List.set_cons_succ]
            clear h hall h5 h6 h7
            go_upto_region 22 with (fail)
            go_cut [126] from 999 to 0 (fun v wx => v = .bool (!klt key' nd.low && (nd.pg.la || klt key' nd.pg.hi)) ∧ St K2 wx (blk b3 (.cells #[.int .i64 (nd.pg).lev, (.slice a3 nd.pg.sl.length c3), .string (nd.pg).hi, .bool (nd.pg).la, .int .u64 (nd.pg).ri] 43) :: slC (.slice a3 nd.pg.sl.length c3) nd.pg :: rowC (.slice (some ⟨ga, 0, none⟩) l.length ca) 23 1 l.length (u64Row (l.map (·.id))) :: blk b0 (.cells #[.int .i64 (d).th, .int .i64 (d).sn, .int .i64 (d).no, .int .i64 (d).ch, .int .i64 (d).re, .int .i64 (d).fa, .int .u64 (d).cl] 26) :: memC bm bc L2 n :: blk b22 (.cells #[.int .u64 (h0).id, .int .u64 (h0).word, .int .i64 (h0).pg.lev, (.slice ah h0.pg.sl.length ch), .string (h0).pg.hi, .bool (h0).pg.la, .int .u64 (h0).pg.ri] 45) :: slC (.slice ah h0.pg.sl.length ch) h0.pg :: blk bv (.cells #[.int .i64 (d).th, .int .i64 (d).sn, .int .i64 (d).no, .int .i64 (d).ch, .int .i64 (d).re, .int .i64 (d).fa, .int .u64 (d).cl, .slice (some ⟨g, 0, none⟩) L.length L.length] 52) :: blk b1 (.cells #[.int .i64 (d).th, .int .i64 (d).sn, .int .i64 (d).no, .int .i64 (d).ch, .int .i64 (d).re, .int .i64 (d).fa, .int .u64 (d).cl] 29) :: []))
            case first =>
              as_aux_lemma =>
              have kp := hs.k0
              rcases kle_cases nd.low key' with ⟨q1, q2, q3⟩ | ⟨q1, q2⟩ | ⟨q1, q2, q3⟩
              · go_wp2
                go_meet
                exact ⟨by rw [q1]; rfl, hs⟩
              · rcases Bool.eq_false_or_eq_true nd.pg.la with hla | hla
                · have Hla := Lib.hid hla
                  rw [hla] at kp
                  clear hla
                  go_wp2
                  go_meet
                  exact ⟨by rw [q1, Hla.out]; rfl, hs⟩
                · have Hla := Lib.hid hla
                  rw [hla] at kp
                  clear hla
                  go_wp2
                  go_meet
                  exact ⟨by rw [q1, Hla.out]; rfl, hs⟩
              · rcases Bool.eq_false_or_eq_true nd.pg.la with hla | hla
                · have Hla := Lib.hid hla
                  rw [hla] at kp
                  clear hla
                  go_wp2
                  go_meet
                  exact ⟨by rw [q1, Hla.out]; rfl, hs⟩
                · have Hla := Lib.hid hla
                  rw [hla] at kp
                  clear hla
                  go_wp2
                  go_meet
                  exact ⟨by rw [q1, Hla.out]; rfl, hs⟩
            case rest =>
            clear hs
            obtain ⟨rfl, hs⟩ := hcut
            obtain ⟨cnd, hcnd⟩ : ∃ cnd, cnd = (!klt key' nd.low && (nd.pg.la || klt key' nd.pg.hi)) := ⟨_, rfl⟩
            rw [← hcnd] at Hstep ⊢
            clear hcnd
            have kp := hs.k0
            cases cnd with
            | false =>
              have hst : wv (j + 1) = wv j := Hstep.out
              have Hst := Lib.hid hst
              clear hst
              go_wp2
              go_roundw
              case rel => exact ⟨j + 1, by rw [Hst.out], by rw [Hlw2.out], by go_num, by omega, hs.tail.tail⟩
              case measure => simp [intOf]; omega
            | true =>
              have hst : wv (j + 1) = nd.id := Hstep.out
              have Hst := Lib.hid hst
              have c0 := (show St K2 wc (rowC _ _ _ _ _ :: _) from hs.b2).row_cell (show (u64Row (l.map (·.id)))[j]? = some (.int .u64 nd.id) by simp [u64Row, Hnd.out])
              clear hst
              go_wp2
              go_roundw
              case rel => exact ⟨j + 1, by rw [Hst.out], by rw [Hlw2.out], by go_num, by omega, hs.tail.tail⟩
              case measure => simp [intOf]; omega
        · obtain rfl : j = l.length := by omega
          have hfin : wv l.length = h0.id := HW5.out.2.2
          rw [hfin]
          have hs := hs.tail
          clear hfin
          as_aux_lemma =>
          go_upto_region 25 with (fail)
          go_cut [147] from 999 to 0 (fun v147 wx => v147 = .bool false ∧ St K2 wx (blk b0 (.cells #[.int .i64 (d).th, .int .i64 (d).sn, .int .i64 (d).no, .int .i64 (d).ch, .int .i64 (d).re, .int .i64 (d).fa, .int .u64 (d).cl] 26) :: memC bm bc L2 n :: blk b22 (.cells #[.int .u64 (h0).id, .int .u64 (h0).word, .int .i64 (h0).pg.lev, (.slice ah h0.pg.sl.length ch), .string (h0).pg.hi, .bool (h0).pg.la, .int .u64 (h0).pg.ri] 45) :: slC (.slice ah h0.pg.sl.length ch) h0.pg :: blk bv (.cells #[.int .i64 (d).th, .int .i64 (d).sn, .int .i64 (d).no, .int .i64 (d).ch, .int .i64 (d).re, .int .i64 (d).fa, .int .u64 (d).cl, .slice (some ⟨g, 0, none⟩) L.length L.length] 52) :: blk b1 (.cells #[.int .i64 (d).th, .int .i64 (d).sn, .int .i64 (d).no, .int .i64 (d).ch, .int .i64 (d).re, .int .i64 (d).fa, .int .u64 (d).cl] 29) :: []))
          case first =>
            as_aux_lemma =>
            have kh := hs.b2.k0
            have hn1 : ¬ ((5000 : Int) ≤ (n : Int)) := by omega
            have hw : IntKind.u64.wrap (n : Int) = n := by rw [IntKind.wrap_u64]; omega
            have Qa := Lib.hid (fun (W : World) (h : St K2 W (blk b0 (.cells #[.int .i64 (d).th, .int .i64 (d).sn, .int .i64 (d).no, .int .i64 (d).ch, .int .i64 (d).re, .int .i64 (d).fa, .int .u64 (d).cl] 26) :: memC bm bc L2 n :: blk b22 (.cells #[.int .u64 (h0).id, .int .u64 (h0).word, .int .i64 (h0).pg.lev, (.slice ah h0.pg.sl.length ch), .string (h0).pg.hi, .bool (h0).pg.la, .int .u64 (h0).pg.ri] 45) :: slC (.slice ah h0.pg.sl.length ch) h0.pg :: blk bv (.cells #[.int .i64 (d).th, .int .i64 (d).sn, .int .i64 (d).no, .int .i64 (d).ch, .int .i64 (d).re, .int .i64 (d).fa, .int .u64 (d).cl, .slice (some ⟨g, 0, none⟩) L.length L.length] 52) :: blk b1 (.cells #[.int .i64 (d).th, .int .i64 (d).sn, .int .i64 (d).no, .int .i64 (d).ch, .int .i64 (d).re, .int .i64 (d).fa, .int .u64 (d).cl] 29) :: [])) => accesses_st h.b1.mem)
            go_wp2_with fail
            refine (Qa.out _ hs).mono ?_
            clear Qa
            rintro e w14 ⟨rfl, rfl⟩
            go_wp2
            go_meet
            exact ⟨by simp, hs⟩
          case rest =>
          clear hs
          obtain ⟨rfl, hs⟩ := hcut
          apply_assumption
          as_aux_lemma =>
          have hkn := hs.know _ _ Hg.out
          have kv := hs.b4.k0
          obtain ⟨iv, hiv0, hiv1, hiv2, hiv3⟩ := info_parts infoCell
          have Hi0 := Lib.hid hiv0
          have Hi1 := Lib.hid hiv1
          have Hi2 := Lib.hid hiv2
          have Hi3 := Lib.hid hiv3
          clear hiv0 hiv1 hiv2 hiv3
          have hVt := vat_of Hg.out hL hs
          have HVt := Lib.hid (fun W (hb : St K2 W (blk b0 (.cells #[.int .i64 (d).th, .int .i64 (d).sn, .int .i64 (d).no, .int .i64 (d).ch, .int .i64 (d).re, .int .i64 (d).fa, .int .u64 (d).cl] 26) :: memC bm bc L2 n :: blk b22 (.cells #[.int .u64 (h0).id, .int .u64 (h0).word, .int .i64 (h0).pg.lev, (.slice ah h0.pg.sl.length ch), .string (h0).pg.hi, .bool (h0).pg.la, .int .u64 (h0).pg.ri] 45) :: slC (.slice ah h0.pg.sl.length ch) h0.pg :: blk bv (.cells #[.int .i64 (d).th, .int .i64 (d).sn, .int .i64 (d).no, .int .i64 (d).ch, .int .i64 (d).re, .int .i64 (d).fa, .int .u64 (d).cl, .slice (some ⟨g, 0, none⟩) L.length L.length] 52) :: blk b1 (.cells #[.int .i64 (d).th, .int .i64 (d).sn, .int .i64 (d).no, .int .i64 (d).ch, .int .i64 (d).re, .int .i64 (d).fa, .int .u64 (d).cl] 29) :: [])) => vat_of Hg.out hL hb)
          have Hn0 : Hid (∀ (j : Nat) u, (flat L)[j]? = some u → ∃ g' off, (some ⟨g, 0, none⟩ : Option Addr) = some ⟨g', off, none⟩ ∧ wc.cell? ⟨g', off + j, none⟩ = some u) := Lib.hid (fun j u hu => ⟨g, 0, rfl, by rw [Nat.zero_add, blk_cell hkn]; simpa using hu⟩)
          have Hl := Lib.hid (flat_length L)
          have H1 := Lib.hid (flat_one L)
          obtain ⟨fl, hfl⟩ : ∃ fl, fl = flat L := ⟨_, rfl⟩
          rw [← hfl] at Hn0 Hl H1
          have Hfl := Lib.hid hfl
          obtain ⟨N, hN⟩ : ∃ N, N = L.length := ⟨_, rfl⟩
          rw [← hN] at Hl
          have HN := Lib.hid hN
          have hN9 : N ≤ 1000000 := by omega
          have Hs := Lib.hid (hs.row_nil (T := 63) (size := 3))
          rw [← hN] at kv ⊢
          clear hs hfl hN hkn hVt
          go_wp2_with (at_builtin; refine append_row_st _ _ 50 63 _ 0 N N 3 32 [] fl (.agg #[.int .u64 0, .string ⟨#[]⟩, .int .u64 0]) iv (some ⟨g, 0, none⟩) Hs.out rfl rfl Tryz.underlying50 Hi0.out Hi1.out Hi2.out Hi3.out rfl (by decide) rfl rfl Hl.out (by intro h; cases h) Hn0.out H1.out (by omega) (by decide) ?_)
          intro v' w' hs
          obtain ⟨al, cl, hv, _, _⟩ := hs.row_read
          subst hv
          rw [Hfl.out] at hs
          clear Hs kv H1 Hl Hn0 Hi0 Hi1 Hi2 Hi3
          have hs : St K2 w' (rowC (.slice al N cl) 63 3 N (flat L) :: blk b0 (.cells #[.int .i64 (d).th, .int .i64 (d).sn, .int .i64 (d).no, .int .i64 (d).ch, .int .i64 (d).re, .int .i64 (d).fa, .int .u64 (d).cl] 26) :: memC bm bc L2 n :: blk b22 (.cells #[.int .u64 (h0).id, .int .u64 (h0).word, .int .i64 (h0).pg.lev, (.slice ah h0.pg.sl.length ch), .string (h0).pg.hi, .bool (h0).pg.la, .int .u64 (h0).pg.ri] 45) :: slC (.slice ah h0.pg.sl.length ch) h0.pg :: blk bv (.cells #[.int .i64 (d).th, .int .i64 (d).sn, .int .i64 (d).no, .int .i64 (d).ch, .int .i64 (d).re, .int .i64 (d).fa, .int .u64 (d).cl, .slice (some ⟨g, 0, none⟩) L.length L.length] 52) :: blk b1 (.cells #[.int .i64 (d).th, .int .i64 (d).sn, .int .i64 (d).no, .int .i64 (d).ch, .int .i64 (d).re, .int .i64 (d).fa, .int .u64 (d).cl] 29) :: []) := hs
          rcases Hfin.out with ⟨hid0, nd, hcv, hhe, hL2⟩ | ⟨hid0, hL2⟩
          -- <YES
          · as_aux_lemma =>
            have hN2 := hcv.nd HT.out.1.ok
            have hidb := hN2.id
            have hno2 := hd.out.no2
            have hpos := node_in hd.out hidb.1 hidb.2 (k := 0) (by omega) (by have := hd.out.fa1; omega)
            have hcl := HT.out.1.clen
            obtain ⟨z, hz⟩ : ∃ z : Nat, d.node nd.id 0 = (z : Int) := ⟨(d.node nd.id 0).toNat, by omega⟩
            have hzN : z < N := by have := HN.out; omega
            obtain ⟨gl, rfl⟩ : ∃ gl, al = some ⟨gl, 0, none⟩ := by
              rcases hs.row_which with ⟨_, hz0, _⟩ | ⟨gl, h1, _⟩
              · omega
              · exact ⟨gl, h1⟩
            have hb1 : (h0.id != 0) = true := by simpa using hid0
            have e1 : h0.id = nd.id := by rw [hhe]
            have e2 : h0.word = ltLock 0 := by rw [hhe]
            have e3 : h0.pg = nd.pg := by rw [hhe]
            have q := fun w => refNode_any d hd.out h0.id 0 (by rw [e1]; omega) (by rw [e1]; omega) (by omega) (by have := hd.out.fa1; omega) w
            rw [show d.node h0.id 0 = (z : Int) by rw [e1]; exact hz] at q
            have Qn := Lib.hid q
            have q := fun (W : World) (hva : VAt W g L) => viewLatch_any hd.out h0.id (by rw [e1]; omega) W hva
            rw [show (getC L (d.node h0.id 0)).n = 0 by rw [e1, hN2.free]; rfl] at q
            have Qv := Lib.hid q
            have Ql := Lib.hid (fun w => ltLock_any 0 (by decide) (by decide) w)
            have q := fun (W : World) (cs : List Comp) (h : St K2 W cs) => viewPage_st hd.out hidb.1 hidb.2 hN2.page Hg.out hL h
            rw [← e1, ← e3] at q
            have QP2 := Lib.hid q
            have hw2 : (h0.word != ltLock 0) = false := by rw [e2]; simp
            have hzc : L[z]? = some Cel.zero := by
              have := getC_at (L := L) (n := z) (by rw [← HN.out]; exact hzN)
              rw [← hz, hN2.free] at this
              exact this
            have hfs := flat_set0 hzc (ltLock 0)
            have Hzc := Lib.hid hzc
            have hL2' : L2 = L.set z ⟨ltLock 0, ⟨#[]⟩, 0⟩ := by
              rw [hL2]
              unfold latL putC
              rw [hz, if_pos (by omega)]
              rfl
            rw [show (⟨ltLock 0, Cel.zero.k, Cel.zero.m⟩ : Cel) = ⟨ltLock 0, ⟨#[]⟩, 0⟩ from rfl, ← hL2'] at hfs
            have Hfs := Lib.hid hfs
            have hLL : L2.length = N := by rw [hL2', List.length_set, HN.out]
            have HLL := Lib.hid hLL
            have hn9 : h0.pg.sl.length ≤ 1000000 := W9
            clear q hfs hL2' hzc e1 e2 e3 hhe hz hpos hcl hL2 hid0 hidb hN2 hcv hLL
            have kh := hs.b3.k0
            go_upto_region 29 with (fail)
            have Hs := Lib.hid hs
            have kc := hs.b1.k0
            have kv := hs.b5.k0
            have Qvv := Lib.hid (fun wz (hy : ∃ x : Ext, wz = over w' x) => Qv.out wz (HVt.out wz (hs.same (Pure.below hy)).tail))
            clear hs
            refine region_tail 10 (by kernel_rfl) (by as_aux_lemma => kernel_rfl) ?_
            simp only [List.take_succ_cons, List.take_zero, List.drop_succ_cons, List.drop_zero]
            repeat (go_big_quiet_step (first | (go_at_call 21; exact pure_of (Qn.out _)) | (go_at_call 31; exact pure_of (Qvv.out _ ⟨_, rfl⟩)) | (go_at_call 30; exact pure_of_same (Ql.out _))))
            refine wpQuiet_nil ?_
            intro w5 hb5
            have hs := Hs.out.same hb5
            clear kc kv kh Qvv hb5 Hs
            have kz := hs.row_cell (j := z * 3) (x := .int .u64 0) (by
              have := (flat_at L z Cel.zero Hzc.out).1
              exact this)
            have fz := hs.row_free (by omega)
            have hset := hs.row_set (j := z * 3) (.int .u64 (ltLock 0))
            rw [Hfs.out] at hset
            clear hs
            go_upto_region 30 with (fail)
            refine wp_ck hset ?_
            clear hset kz fz
            intro w6 hs
            have hs : St K2 w6 (rowC (.slice (some ⟨gl, 0, none⟩) N cl) 63 3 N (flat L2) :: blk b0 (.cells #[.int .i64 (d).th, .int .i64 (d).sn, .int .i64 (d).no, .int .i64 (d).ch, .int .i64 (d).re, .int .i64 (d).fa, .int .u64 (d).cl] 26) :: memC bm bc L2 n :: blk b22 (.cells #[.int .u64 (h0).id, .int .u64 (h0).word, .int .i64 (h0).pg.lev, (.slice ah h0.pg.sl.length ch), .string (h0).pg.hi, .bool (h0).pg.la, .int .u64 (h0).pg.ri] 45) :: slC (.slice ah h0.pg.sl.length ch) h0.pg :: blk bv (.cells #[.int .i64 (d).th, .int .i64 (d).sn, .int .i64 (d).no, .int .i64 (d).ch, .int .i64 (d).re, .int .i64 (d).fa, .int .u64 (d).cl, .slice (some ⟨g, 0, none⟩) L.length L.length] 52) :: blk b1 (.cells #[.int .i64 (d).th, .int .i64 (d).sn, .int .i64 (d).no, .int .i64 (d).ch, .int .i64 (d).re, .int .i64 (d).fa, .int .u64 (d).cl] 29) :: []) := hs
            go_cut [178] from 999 to 0 (fun v178 wx => v178 = .bool false ∧ St K2 wx (rowC (.slice (some ⟨gl, 0, none⟩) N cl) 63 3 N (flat L2) :: blk b0 (.cells #[.int .i64 (d).th, .int .i64 (d).sn, .int .i64 (d).no, .int .i64 (d).ch, .int .i64 (d).re, .int .i64 (d).fa, .int .u64 (d).cl] 26) :: memC bm bc L2 n :: blk b22 (.cells #[.int .u64 (h0).id, .int .u64 (h0).word, .int .i64 (h0).pg.lev, (.slice ah h0.pg.sl.length ch), .string (h0).pg.hi, .bool (h0).pg.la, .int .u64 (h0).pg.ri] 45) :: slC (.slice ah h0.pg.sl.length ch) h0.pg :: blk bv (.cells #[.int .i64 (d).th, .int .i64 (d).sn, .int .i64 (d).no, .int .i64 (d).ch, .int .i64 (d).re, .int .i64 (d).fa, .int .u64 (d).cl, .slice (some ⟨g, 0, none⟩) L.length L.length] 52) :: blk b1 (.cells #[.int .i64 (d).th, .int .i64 (d).sn, .int .i64 (d).no, .int .i64 (d).ch, .int .i64 (d).re, .int .i64 (d).fa, .int .u64 (d).cl] 29) :: []))
            case first =>
              as_aux_lemma =>
              have Hs := Lib.hid hs
              clear hs
              refine region_effectsK [false, false, false, false, false, false, false, false, false, false, false, false, true, true, false, false] (fun | 13 => some (.bool true) | _ => none) [12, 13] (fun | 13 => [12] | _ => [])
                (GR K2 (rowC (.slice (some ⟨gl, 0, none⟩) N cl) 63 3 N (flat L2) :: blk b0 (.cells #[.int .i64 (d).th, .int .i64 (d).sn, .int .i64 (d).no, .int .i64 (d).ch, .int .i64 (d).re, .int .i64 (d).fa, .int .u64 (d).cl] 26) :: memC bm bc L2 n :: blk b22 (.cells #[.int .u64 (h0).id, .int .u64 (h0).word, .int .i64 (h0).pg.lev, (.slice ah h0.pg.sl.length ch), .string (h0).pg.hi, .bool (h0).pg.la, .int .u64 (h0).pg.ri] 45) :: slC (.slice ah h0.pg.sl.length ch) h0.pg :: blk bv (.cells #[.int .i64 (d).th, .int .i64 (d).sn, .int .i64 (d).no, .int .i64 (d).ch, .int .i64 (d).re, .int .i64 (d).fa, .int .u64 (d).cl, .slice (some ⟨g, 0, none⟩) L.length L.length] 52) :: blk b1 (.cells #[.int .i64 (d).th, .int .i64 (d).sn, .int .i64 (d).no, .int .i64 (d).ch, .int .i64 (d).re, .int .i64 (d).fa, .int .u64 (d).cl] 29) :: []) [12, 13] (PgΦ h0.pg 12 13))
                (fun W => St K2 W (rowC (.slice (some ⟨gl, 0, none⟩) N cl) 63 3 N (flat L2) :: blk b0 (.cells #[.int .i64 (d).th, .int .i64 (d).sn, .int .i64 (d).no, .int .i64 (d).ch, .int .i64 (d).re, .int .i64 (d).fa, .int .u64 (d).cl] 26) :: memC bm bc L2 n :: blk b22 (.cells #[.int .u64 (h0).id, .int .u64 (h0).word, .int .i64 (h0).pg.lev, (.slice ah h0.pg.sl.length ch), .string (h0).pg.hi, .bool (h0).pg.la, .int .u64 (h0).pg.ri] 45) :: slC (.slice ah h0.pg.sl.length ch) h0.pg :: blk bv (.cells #[.int .i64 (d).th, .int .i64 (d).sn, .int .i64 (d).no, .int .i64 (d).ch, .int .i64 (d).re, .int .i64 (d).fa, .int .u64 (d).cl, .slice (some ⟨g, 0, none⟩) L.length L.length] 52) :: blk b1 (.cells #[.int .i64 (d).th, .int .i64 (d).sn, .int .i64 (d).no, .int .i64 (d).ch, .int .i64 (d).re, .int .i64 (d).fa, .int .u64 (d).cl] 29) :: [])) ?yaS (by kernel_rfl) ?yhB ?yH ?yhaS ?yh0 ?yhI ?yhR ?yhE ?yhQ
              case yhB => as_aux_lemma => kernel_rfl
              case yH =>
                -- <ymH
                intro W2 hs
                have kh := hs.b3.k0
                have kv := hs.b5.k0
                have Qvv := Lib.hid (fun wz (hy : ∃ x : Ext, wz = over W2 x) => Qv.out wz (HVt.out wz (hs.same (Pure.below hy)).tail))
                clear hs
                simp only [withK]
                repeat (go_big_quiet_step (first | (go_at_call 31; exact pure_of (Qvv.out _ ⟨_, rfl⟩)) | (go_at_call 30; exact pure_of_same (Ql.out _))))
                refine wpQuiet_nil ?_
                rfl
                -- ymH>
              case yhaS => rfl
              case yh0 => exact GR.start Hs.out
              case yhI => exact fun ρ W2 h => h.rest
              case yhR => exact fun ρ W2 W3 h hb => h.same hb
              case yhE =>
                refine ⟨?ye12, ?ye13, trivial⟩
                case ye12 =>
                  -- <ym12
                  intro o ho ρ W2 h hcl h12 hd2 act hact
                  obtain rfl := Option.some.inj ho
                  replace hact : act = fillD _ ρ [] _ := hact
                  obtain ⟨C, R', hx1, hs, hnext⟩ := h.step PgΦ.mono 12 [] (by decide) (by decide) (by decide) h12 (by simp)
                  simp only [fillD] at hact
                  subst hact
                  have Hn := Lib.hid hnext
                  clear hnext hx1 h hcl hd2 h12
                  go_wp2_with fail
                  refine (QP2.out _ _ hs).mono ?_
                  rintro e W3 ⟨va8, rfl, hs'⟩
                  obtain ⟨a8, c8, rfl, _, _⟩ := hs'.row_read
                  have Hs' := Lib.hid hs'
                  clear hs hs'
                  go_wp2
                  exact ⟨rfl, _, rfl, fun u hu => (by cases hu), Hn.out _ _ W3 ⟨a8, c8, rfl, rfl⟩ Hs'.out⟩
                  -- ym12>
                case ye13 =>
                  -- <ym13
                  intro o ho ρ W2 h hcl h13 hd2 act hact
                  obtain rfl := Option.some.inj ho
                  replace hact : act = fillD _ ρ [12] _ := hact
                  obtain ⟨v12, h12⟩ := Option.isSome_iff_exists.1 (hd2 12 (by show _ ∈ [12]; simp))
                  obtain ⟨cs8, R8, ⟨a8, c8, rfl, rfl⟩, hs8⟩ := h.at 12 (by simp) h12
                  have s8 := hs8.row_slots (by omega)
                  have sx : SlAt W2 ah h0.pg.sl := St.row_slots (l := h0.pg.sl) (h.rest).b4 (by omega)
                  have S8 := Lib.hid s8
                  have SX := Lib.hid sx
                  have H := Lib.hid h
                  have H11 := Lib.hid h13
                  simp only [fillD, h12, Option.getD_some, dstAt, List.getElem?_cons_succ, List.getElem?_cons_zero, Option.bind_some, Option.bind_none, Act.put, List.setIfInBounds_toArray, List.set_cons_zero, List.set_cons_succ] at hact
                  subst hact
                  clear hs8 h hcl hd2 h12 h13 s8 sx
                  go_wp2_with fail
                  refine (samePage_any W2 SX.out S8.out).mono ?_
                  rintro e W3 ⟨rfl, hb⟩
                  have Hb := Lib.hid hb
                  clear hb
                  go_wp2
                  exact ⟨rfl, _, rfl, fun u hu => Option.some.inj hu, (H.out.same Hb.out).know PgΦ.mono 13 (by decide) (by simp) H11.out _ ⟨rfl, rfl⟩⟩
                  -- ym13>
              case yhQ =>
                -- <ymQ
                intro ρ W2 h hall
                have hs := h.rest
                clear h
                simp only [fillD, Option.getD_some, dstAt, List.getElem?_cons_succ, List.getElem?_cons_zero, Option.bind_some, Option.bind_none, Act.put, List.setIfInBounds_toArray, List.set_cons_zero, List.set_cons_succ]
                go_wp2
                go_meet
                exact ⟨rfl, hs⟩
                -- ymQ>
            case rest =>
            clear hs
            obtain ⟨rfl, hs⟩ := hcut
            apply_assumption
            have hlen2 := HLL.out
            have kz : True := trivial
            go_upto_region 32 with (fail)
            have q := kitCells_st (hs.re [2, 0, 1] rfl)
            have Q := Lib.hid q
            clear q hs
            go_wp2_with fail
            refine (Q.out).mono ?_
            clear Q
            rintro e w8 ⟨g8, rfl, hs⟩
            rw [HLL.out]
            have v8 : VAt w8 g8 L2 := ⟨hs.n0, by omega, fun i c hc => flat_cell hs.head hc⟩
            have v9 : VAt w8 gl L2 := by
              have h9 := hs.b2
              rw [← HLL.out] at h9
              exact h9.row_cells (by omega)
            have q := same_cellsV w8 g8 gl L2.length cl L2 v8 v9
            rw [HLL.out] at q
            have Q := Lib.hid q
            have Hs := Lib.hid hs
            clear q hs v8 v9
            go_wp2_with fail
            refine (calls_same Hs.out Q.out).mono ?_
            rintro e w9 ⟨rfl, hs⟩
            have Hs2 := Lib.hid (hs.below Hle.out)
            clear hs Hs Q
            go_wp2
            go_ret
            exact ⟨rfl, Hs2.out⟩
          -- YES>
          -- <NO
          · as_aux_lemma =>
            have hb1 : (h0.id != 0) = false := by rw [hid0]; rfl
            have hcl := HT.out.1.clen
            have hcb := cells_big hd.out
            have hN0 : 0 < N := by have := HN.out; omega
            obtain ⟨gl, rfl⟩ : ∃ gl, al = some ⟨gl, 0, none⟩ := by
              rcases hs.row_which with ⟨_, hz0, _⟩ | ⟨gl, h1, _⟩
              · omega
              · exact ⟨gl, h1⟩
            have hs := hs.row_eq (show flat L = flat L2 by rw [hL2])
            have HLL : Hid (L2.length = N) := Lib.hid (by rw [hL2, HN.out])
            clear hcl hcb hL2
            have hlen2 := HLL.out
            have kz : True := trivial
            go_upto_region 32 with (fail)
            have q := kitCells_st (hs.re [2, 0, 1] rfl)
            have Q := Lib.hid q
            clear q hs
            go_wp2_with fail
            refine (Q.out).mono ?_
            clear Q
            rintro e w8 ⟨g8, rfl, hs⟩
            rw [HLL.out]
            have v8 : VAt w8 g8 L2 := ⟨hs.n0, by omega, fun i c hc => flat_cell hs.head hc⟩
            have v9 : VAt w8 gl L2 := by
              have h9 := hs.b2
              rw [← HLL.out] at h9
              exact h9.row_cells (by omega)
            have q := same_cellsV w8 g8 gl L2.length cl L2 v8 v9
            rw [HLL.out] at q
            have Q := Lib.hid q
            have Hs := Lib.hid hs
            clear q hs v8 v9
            go_wp2_with fail
            refine (calls_same Hs.out Q.out).mono ?_
            rintro e w9 ⟨rfl, hs⟩
            have Hs2 := Lib.hid (hs.below Hle.out)
            clear hs Hs Q
            go_wp2
            go_ret
            exact ⟨rfl, Hs2.out⟩
          -- NO>
    · have hp2 : s'.pc ≠ 4 := by omega
      rw [decide_eq_false hp] at q
      have Q := Lib.hid q
      have G5 := Lib.hid g5
      clear q g5
      go_wp2_with fail
      refine (Q.out).mono ?_
      clear Q
      rintro e w10 ⟨rfl, ho⟩
      have Ho := Lib.hid ho
      clear ho
      go_wp2
      go_roundw
      case rel => exact ⟨n + 1, q0 + 1, m - 1, s', by omega, Lib.hid (by have := Hq.out; omega), by go_num, hp2, Lib.hid ⟨L2, G5.out, Ho.out⟩⟩
      case measure => simp [intOf]; omega
end Go.Proofs.YtlpdhhhgckpcfaaGreat
