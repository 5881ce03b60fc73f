/- The walk of DescentMeetsEveryKey. -/
import Derived.Test.YtfgjanponijkhaaLaw11e
namespace Go.Proofs.Ytfgjanponijkhaa
open Go.RowKit
set_option maxRecDepth 100000
theorem loK_take {l : List Sl} {k : Nat} {s : Sl} (key : ByteArray) (h : l[k]? = some s) : loK (l.take (k + 1)) key = loK (l.take k) key + (if klt s.k key then 1 else 0) := by
  unfold loK
  rw [List.take_add_one, h]
  simp [List.countP_append, List.countP_cons]
section
variable {pg : Pg} {a : Option Addr} {cap : Nat} {key : ByteArray}
set_option maxHeartbeats 2000000 in
/-- The reference's Find. -/
theorem refFind_any (w : World) (hg : SlAt w a pg.sl) :
    Calls Try.prog 84 #[.agg #[.int .i64 (pg).lev, (.slice a pg.sl.length cap), .string (pg).hi, .bool (pg).la, .int .u64 (pg).ri], .string key] w fun e w' => e = .returned (.tuple #[.int .i64 (loK pg.sl key : Nat), .bool (pg.sl.any fun s => s.k.toList == key.toList)]) ∧ Below w.heap.size w w' := by
  have hX := hg.1
  obtain ⟨n, hn⟩ : ∃ n, n = pg.sl.length := ⟨_, rfl⟩
  rw [← hn] at hX ⊢
  have Hn := Lib.hid hn
  have Hg := Lib.hid hg
  have hs := (St.start w).made (.cells #[.int .i64 (pg).lev, (.slice a n cap), .string (pg).hi, .bool (pg).la, .int .u64 (pg).ri] 25)
  clear hn hg
  go_enter Try.func84, Try.ntmps84
  go_wp2
  go_loopw [6, 7, 8] (fun v6 v7 v8 wr => ∃ k : Nat, k ≤ n ∧ v6 = .int .i64 (loK (pg.sl.take k) key : Nat) ∧ v7 = .bool ((pg.sl.take k).any fun s => s.k.toList == key.toList) ∧ v8 = .int .i64 k ∧ St (Know.of w) wr [blk w.heap.size (.cells #[.int .i64 (pg).lev, (.slice a n cap), .string (pg).hi, .bool (pg).la, .int .u64 (pg).ri] 25)]) (fun _ _ v8 _ => n - (intOf v8).toNat)
  case atStart => exact ⟨0, by omega, by simp [loK], by simp, rfl, hs⟩
  case round =>
    clear hs
    obtain ⟨k, hk, rfl, rfl, rfl, hs⟩ := hrel
    have hb := hs.below (Know.Le.refl _)
    have k0 := hs.k0
    by_cases hlt : k < n
    · have hl' : k < pg.sl.length := by rw [← Hn.out]; exact hlt
      obtain ⟨b1, off1, rfl, _, c0, c1⟩ := (Hg.out.same hb).2 k pg.sl[k] (List.getElem?_eq_getElem hl')
      have Hlo := Lib.hid (loK_take key (List.getElem?_eq_getElem hl'))
      have Han : Hid (((pg.sl.take (k + 1)).any fun s => s.k.toList == key.toList) = (((pg.sl.take k).any fun s => s.k.toList == key.toList) || (pg.sl[k].k.toList == key.toList))) := Lib.hid (by
        rw [List.take_add_one, List.getElem?_eq_getElem hl', List.any_append]; simp only [Option.toList_some, List.any_cons, List.any_nil, Bool.or_false])
      have hlo : loK (pg.sl.take k) key ≤ 1000000000 := by
        have h1 := loK_le (pg.sl.take k) key
        have h2 := List.length_take_le k pg.sl
        omega
      generalize pg.sl[k] = u at *
      generalize loK (pg.sl.take k) key = m at *
      generalize ((pg.sl.take k).any fun s => s.k.toList == key.toList) = q at *
      clear hl'
      cases hu : klt u.k key with
      | true =>
        rw [hu] at Hlo
        cases q with
        | true =>
          go_wp2
          go_roundw
          case rel => exact ⟨k + 1, by omega, by rw [Hlo.out]; go_num, by rw [Han.out]; rfl, by go_num, hs⟩
          case measure => simp [intOf]; omega
        | false =>
          go_wp2
          go_roundw
          case rel => exact ⟨k + 1, by omega, by rw [Hlo.out]; go_num, by rw [Han.out]; rfl, by go_num, hs⟩
          case measure => simp [intOf]; omega
      | false =>
        rw [hu] at Hlo
        cases q with
        | true =>
          go_wp2
          go_roundw
          case rel => exact ⟨k + 1, by omega, by rw [Hlo.out]; go_num, by rw [Han.out]; rfl, by go_num, hs⟩
          case measure => simp [intOf]; omega
        | false =>
          go_wp2
          go_roundw
          case rel => exact ⟨k + 1, by omega, by rw [Hlo.out]; go_num, by rw [Han.out]; rfl, by go_num, hs⟩
          case measure => simp [intOf]; omega
    · obtain rfl : k = n := by omega
      have e : pg.sl.take k = pg.sl := List.take_of_length_le (by rw [← Hn.out]; exact Nat.le_refl _)
      rw [e]
      clear e
      go_wp2
      go_ret2
      exact ⟨rfl, hb⟩
end
/-- The bound of a walk backwards: j leaves are still to come. -/
def BdI (l : List Nd) (j : Nat) (lst : Bool) (bound : ByteArray) : Prop :=
  (lst = true ∧ j = l.length) ∨ (lst = false ∧ ∃ x : Nd, l[j]? = some x ∧ bound = x.low)
theorem BdI.key {lev : Nat} {l : List Nd} {j : Nat} {lst : Bool} {bound : ByteArray} (h : RowOk lev l) (hb : BdI l j lst bound) (hj : 1 ≤ j) : lst = true ∨ klt ⟨#[]⟩ bound = true := by
  rcases hb with ⟨h1, _⟩ | ⟨_, x, hx, rfl⟩
  · exact .inl h1
  · have hjl := (List.getElem?_eq_some_iff.1 hx).1
    obtain ⟨a, ha⟩ : ∃ a, l[0]? = some a := ⟨_, List.getElem?_eq_getElem (by omega)⟩
    have := h.low_lt j 0 a x ha hx (by omega)
    rw [h.first a ha] at this
    exact .inr this
/-- Below finds the leaf before. -/
theorem BdI.prev {lev : Nat} {l : List Nd} {j i : Nat} {lst : Bool} {bound : ByteArray} {nd : Nd} (h : RowOk lev l) (hb : BdI l j lst bound) (hi : l[i]? = some nd) (h1 : lst = true ∨ klt nd.low bound = true) (h2 : nd.pg.la = true ∨ (lst = false ∧ klt nd.pg.hi bound = false)) :
    j = i + 1 ∧ (lst = false → nd.pg.la = false ∧ nd.pg.hi = bound) := by
  have hil := (List.getElem?_eq_some_iff.1 hi).1
  have hlast : nd.pg.la = true → i + 1 = l.length := fun e => by
    by_cases hh : i + 1 = l.length
    · exact hh
    · have := (h.next i nd _ hi (List.getElem?_eq_getElem (by omega))).1
      rw [this] at e; cases e
  rcases hb with ⟨e1, e2⟩ | ⟨e1, x, hx, rfl⟩
  · refine ⟨?_, fun e => by rw [e1] at e; cases e⟩
    rcases h2 with h2 | ⟨h2, _⟩
    · have := hlast h2; omega
    · rw [e1] at h2; cases h2
  · have hlt : klt nd.low x.low = true := by
      rcases h1 with h1 | h1
      · rw [e1] at h1; cases h1
      · exact h1
    have hjl := (List.getElem?_eq_some_iff.1 hx).1
    have hij : i < j := by
      rcases Nat.lt_trichotomy i j with h3 | h3 | h3
      · exact h3
      · subst h3
        rw [hi] at hx
        rw [Option.some.inj hx, klt_irrefl] at hlt; cases hlt
      · have := klt_asymm (h.low_lt i j x nd hx hi h3)
        rw [hlt] at this; cases this
    obtain ⟨b, hb⟩ : ∃ b, l[i + 1]? = some b := ⟨_, List.getElem?_eq_getElem (by omega)⟩
    obtain ⟨n1, n2, _, _⟩ := h.next i nd b hi hb
    have hh : klt nd.pg.hi x.low = false := by
      rcases h2 with h2 | ⟨_, h2⟩
      · rw [n1] at h2; cases h2
      · exact h2
    have hj : j = i + 1 := by
      by_cases hh2 : i + 1 = j
      · exact hh2.symm
      · have := h.low_lt j (i + 1) b x hb hx (by omega)
        rw [← n2, hh] at this; cases this
    subst hj
    rw [hb] at hx
    exact ⟨rfl, fun _ => ⟨n1, by rw [n2, Option.some.inj hx]⟩⟩
theorem slPos_mono : ∀ (l : List Nd) (i j : Nat), i ≤ j → slPos l i ≤ slPos l j := by
  intro l i j h
  unfold slPos
  obtain ⟨k, rfl⟩ : ∃ k, j = i + k := ⟨j - i, by omega⟩
  rw [List.take_add, List.map_append, List.sum_append]
  omega
set_option maxHeartbeats 16000000 in
theorem descentMeets_walk (a : Option Addr) (len cap : Nat) (f : Nat → ByteArray) (fanout sh : Int) (hide : Bool) (hsh : 0 ≤ sh ∧ sh < 18446744073709551616) (w : World) (hz : StrsIn w a len f) :
    Calls Try.prog 15 #[.slice a len cap, .int .i64 fanout, .int .u64 sh, .bool hide] w fun e w' => e = .returned (.bool true) ∧ Below w.heap.size w w' := by
  obtain ⟨d, hd, hfa, hno, Qt⟩ := tree_ex2 cap fanout hide hz hsh
  go_enter Try.func15, Try.ntmps15
  go_wp2_with fail
  refine (Qt.out _ _ (St.start w)).mono ?_
  rintro e w1 ⟨bm, bc, L, t, ks, ka, kc, rfl, HT, hs⟩
  have hs := (hs.made (.cells #[.int .i64 (d).th, .int .i64 (d).sn, .int .i64 (d).no, .int .i64 (d).ch, .int .i64 (d).re, .int .i64 (d).fa, .int .u64 (d).cl] 27)).made (.cells #[.int .i64 (d).th, .int .i64 (d).sn, .int .i64 (d).no, .int .i64 (d).ch, .int .i64 (d).re, .int .i64 (d).fa, .int .u64 (d).cl] 30)
  simp only [World.size_alloc] at hs
  obtain ⟨b0, hb0⟩ : ∃ b0, b0 = w1.heap.size := ⟨_, rfl⟩
  have QA := Lib.hid (fun (W : World) (cs : List Comp) (h : St (Know.of w) W cs) => awake11_st h)
  go_wp2_with fail
  rw [← hb0] at hs ⊢
  clear hb0
  refine (QA.out _ _ hs).mono ?_
  clear hs
  rintro e w2 ⟨rfl, hs⟩
  have hs : St (Know.of w) w2 (memC bm bc L 0 :: blk (b0 + 1) (.cells #[.int .i64 (d).th, .int .i64 (d).sn, .int .i64 (d).no, .int .i64 (d).ch, .int .i64 (d).re, .int .i64 (d).fa, .int .u64 (d).cl] 30) :: rowC (.slice ka ks.length kc) 9 1 ks.length (stRow ks) :: []) := (hs.re [1, 2, 0, 3] rfl).tail
  obtain ⟨l, Hl⟩ : ∃ l, Hid (t[0]? = some l) := ⟨_, Lib.hid (List.getElem?_eq_getElem HT.out.1.ok.ne)⟩
  have hk40 := HT.out.2.len
  have hns : Hid (nodeSteps d ≤ 11) := Lib.hid (by unfold nodeSteps; have := hfa.out; omega)
  go_wp2_with fail
  go_loopw [13] (fun v13 wr => ∃ (i acc : Nat), v13 = .int .i64 i ∧ i ≤ ks.length ∧ acc ≤ i * 1101 ∧ St (Know.of w) wr (memC bm bc L acc :: blk (b0 + 1) (.cells #[.int .i64 (d).th, .int .i64 (d).sn, .int .i64 (d).no, .int .i64 (d).ch, .int .i64 (d).re, .int .i64 (d).fa, .int .u64 (d).cl] 30) :: rowC (.slice ka ks.length kc) 9 1 ks.length (stRow ks) :: [])) (fun v13 _ => ks.length - (intOf v13).toNat)
  case atStart => exact ⟨0, 0, rfl, by omega, by omega, hs⟩
  case round =>
    clear hs
    obtain ⟨i, acc, rfl, hi, hacc, hs⟩ := hrel
    by_cases hin : i < ks.length
    · obtain ⟨key, hkey⟩ : ∃ key, ks[i]? = some key := ⟨_, List.getElem?_eq_getElem hin⟩
      have Hkey := Lib.hid hkey
      obtain ⟨gk, hgk, c0⟩ := (show St (Know.of w) wr (rowC _ _ _ _ _ :: _) from hs.b2).row_at (show (stRow ks)[i]? = some (.string key) by simp [stRow, hkey])
      subst hgk
      clear hkey c0
      go_upto_region 7 with (fail)
      have Hs := Lib.hid hs
      clear hs
      refine region_two [false, false, false, false, false, true, true] 5 6
        (fun W => St (Know.of w) W (memC bm bc L acc :: blk (b0 + 1) (.cells #[.int .i64 (d).th, .int .i64 (d).sn, .int .i64 (d).no, .int .i64 (d).ch, .int .i64 (d).re, .int .i64 (d).fa, .int .u64 (d).cl] 30) :: rowC (.slice (some ⟨gk, 0, none⟩) ks.length kc) 9 1 ks.length (stRow ks) :: []))
        (fun v W => ∃ b : Nat, v = (.pointer (some ⟨b, 0, none⟩)) ∧ (∀ B, St (Know.of w) W (fdL b (stV (some (rootFV b))) B (.slice none 0 0) (.slice none 0 0) d key 0 fd0 ++ (memC bm bc L acc :: blk (b0 + 1) (.cells #[.int .i64 (d).th, .int .i64 (d).sn, .int .i64 (d).no, .int .i64 (d).ch, .int .i64 (d).re, .int .i64 (d).fa, .int .u64 (d).cl] 30) :: rowC (.slice (some ⟨gk, 0, none⟩) ks.length kc) 9 1 ks.length (stRow ks) :: []))))
        (fun v u W => u = v ∧ ∃ b : Nat, v = (.pointer (some ⟨b, 0, none⟩)) ∧ (∀ B, St (Know.of w) W (fdL b (stV (some (rootFV b))) B (.slice none 0 0) (.slice none 0 0) d key 0 fd0 ++ (memC bm bc L acc :: blk (b0 + 1) (.cells #[.int .i64 (d).th, .int .i64 (d).sn, .int .i64 (d).no, .int .i64 (d).ch, .int .i64 (d).re, .int .i64 (d).fa, .int .u64 (d).cl] 30) :: rowC (.slice (some ⟨gk, 0, none⟩) ks.length kc) 9 1 ks.length (stRow ks) :: []))))
        (fun W => ∃ cs, St (Know.of w) W (blk (b0 + 1) (.cells #[.int .i64 (d).th, .int .i64 (d).sn, .int .i64 (d).no, .int .i64 (d).ch, .int .i64 (d).re, .int .i64 (d).fa, .int .u64 (d).cl] 30) :: rowC (.slice (some ⟨gk, 0, none⟩) ks.length kc) 9 1 ks.length (stRow ks) :: cs)) ?aSa (by decide) (by kernel_rfl) ?hBa ?Ha ?haSa Hs.out ?hIa ?hRa ?hE1a ?hE2a ?hQa
      case hBa => as_aux_lemma => kernel_rfl
      case Ha =>
        rintro W2 ⟨cs, hs⟩
        have kl := hs.k0
        have c0 := (show St (Know.of w) W2 (rowC _ _ _ _ _ :: _) from hs.b1).row_cell (show (stRow ks)[i]? = some (.string key) by simp [stRow, Hkey.out])
        clear hs
        simp only [withM]
        repeat (go_big_quiet_step (fail))
        refine wpQuiet_nil ?_
        rfl
      case haSa => rfl
      case hIa => exact ⟨fun W h => ⟨_, h.tail⟩, fun v W ⟨b, _, h⟩ => ⟨_, (h ⟨0, 0, 0, 0, 0, 0⟩).tail.tail.tail⟩, fun v u W ⟨_, b, _, h⟩ => ⟨_, (h ⟨0, 0, 0, 0, 0, 0⟩).tail.tail.tail⟩⟩
      case hRa => exact ⟨fun W W' h hb => h.same hb, fun v W W' ⟨b, e, h⟩ hb => ⟨b, e, fun B => (h B).same hb⟩, fun v u W W' ⟨e0, b, e, h⟩ hb => ⟨e0, b, e, fun B => (h B).same hb⟩⟩
      case hE1a =>
        intro R2' o ho ρ W2 hs hk af haf
        obtain rfl := Option.some.inj ho
        subst haf
        have Hk := Lib.hid hk
        clear hk
        go_wp2_with fail
        refine (newFind_st (d := d) (key := key) (level := 0) hs).mono ?_
        rintro e w3 ⟨b, rfl, hs⟩
        go_wp2
        exact ⟨rfl, _, rfl, Hk.out _ _ ⟨b, rfl, hs⟩⟩
      case hE2a =>
        rintro R2' o ho ρ v W2 ⟨b, rfl, hs⟩ hk af haf
        obtain rfl := Option.some.inj ho
        have Hk := Lib.hid hk
        clear hk
        simp only [dstAt, List.getElem?_cons_succ, List.getElem?_cons_zero, Option.bind_some, Act.put, List.setIfInBounds_toArray, List.set_cons_zero, List.set_cons_succ] at haf
        subst haf
        go_wp2
        exact ⟨rfl, _, rfl, Hk.out _ _ ⟨rfl, b, rfl, hs⟩⟩
      case hQa =>
      rintro v u w5 ⟨rfl, b, rfl, hs⟩
      simp only [dstAt, List.getElem?_cons_succ, List.getElem?_cons_zero, Option.bind_some, Act.put, List.setIfInBounds_toArray, List.set_cons_zero, List.set_cons_succ]
      have ho : FdOn (Know.of w) b bm bc d L key 0 (blk (b0 + 1) (.cells #[.int .i64 (d).th, .int .i64 (d).sn, .int .i64 (d).no, .int .i64 (d).ch, .int .i64 (d).re, .int .i64 (d).fa, .int .u64 (d).cl] 30) :: rowC (.slice (some ⟨gk, 0, none⟩) ks.length kc) 9 1 ks.length (stRow ks) :: []) fd0 acc w5 := FdOn.start (fun B => hs B)
      clear hs
      go_wp2_with fail
      go_loopw [15] (fun vn wr => ∃ (n m : Nat) (s : FdS), n + m ≤ 1101 ∧ vn = .int .i64 n ∧ s.pc ≠ 2 ∧ Hid (FdInv d L t key 0 s m) ∧ FdOn (Know.of w) b bm bc d L key 0 (blk (b0 + 1) (.cells #[.int .i64 (d).th, .int .i64 (d).sn, .int .i64 (d).no, .int .i64 (d).ch, .int .i64 (d).re, .int .i64 (d).fa, .int .u64 (d).cl] 30) :: rowC (.slice (some ⟨gk, 0, none⟩) ks.length kc) 9 1 ks.length (stRow ks) :: []) s (acc + n) wr) (fun v _ => 1101 - (intOf v).toNat)
      case atStart =>
        have hc := Nat.mul_le_mul HT.out.1.ok.count hns.out
        exact ⟨0, _, fd0, by omega, rfl, by decide, Lib.hid FdInv.start, ho⟩
      case round =>
        clear ho
        obtain ⟨n, m, s, hnm, rfl, hpc, HI, ho⟩ := hrel
        have hm := (HI.out.step hd.out HT.out.1.cels HT.out.1.ok hpc).1
        have q := findStep_inv hd.out HT.out.1.cels HT.out.1.ok (by omega) HI.out hpc ho
        generalize fdStep d L key ((0 : Nat) : Int) s = s' at q
        clear ho
        by_cases hp : 2 ≤ s'.pc
        · rw [decide_eq_true hp] at q
          have Q := Lib.hid q
          clear q
          go_wp2_with fail
          refine (Q.out).mono ?_
          clear Q
          rintro e w6 ⟨rfl, _, hI, hs⟩
          obtain ⟨h2, hr, _⟩ := hI.done hp
          obtain ⟨l', i', nd, hl', hi', hid, hpg, hlow, hcov⟩ := hr HT.out.1.ok.ne
          obtain rfl : l = l' := Option.some.inj (Hl.out.symm.trans hl')
          obtain ⟨q, hq, hq2, _⟩ := HT.out.1.key_slot hl' hi' Hkey.out hlow hcov
          obtain ⟨⟨B, va, va2⟩, hs⟩ := hs
          obtain ⟨pc, id, pg, rd⟩ := s'
          simp only at h2 hid hpg
          subst h2 hid hpg
          have hnd := HT.out.1.ok.nodes 0 l hl' nd (List.mem_of_getElem? hi')
          have hpl : nd.pg.sl.length ≤ 1000000 := by have := hnd.page.le; have := hd.out.fa2; omega
          have hs : St (Know.of w) w6 (fdL b .nilFunc B va va2 d key (0 : Nat) ⟨2, nd.id, nd.pg, rd⟩ ++ (memC bm bc L (acc + n + 1) :: blk (b0 + 1) (.cells #[.int .i64 (d).th, .int .i64 (d).sn, .int .i64 (d).no, .int .i64 (d).ch, .int .i64 (d).re, .int .i64 (d).fa, .int .u64 (d).cl] 30) :: rowC (.slice (some ⟨gk, 0, none⟩) ks.length kc) 9 1 ks.length (stRow ks) :: [])) := hs
          have q1 := findNode_st rfl (show nd.pg.sl.length ≤ 1000000 from hpl) hs
          have Q := Lib.hid q1
          have Hq := Lib.hid hq
          have Hq2 := Lib.hid hq2
          clear hs q1 hp hI hr hl' hi' hlow hcov hnd hq hq2 hpc
          go_wp2_with fail
          refine (Q.out).mono ?_
          clear Q
          rintro e w7 ⟨va', rfl, hs⟩
          obtain ⟨a1, cap1, hv, _, _⟩ := (show St (Know.of w) w7 (rowC va' 132 2 nd.pg.sl.length (slRow nd.pg.sl) :: _) from hs).row_read
          subst hv
          have hs := hs.made (.cells #[.int .i64 (nd.pg).lev, (.slice a1 nd.pg.sl.length cap1), .string (nd.pg).hi, .bool (nd.pg).la, .int .u64 (nd.pg).ri] 25)
          obtain ⟨bp, hbp⟩ : ∃ bp, bp = w7.heap.size := ⟨_, rfl⟩
          rw [← hbp] at hs
          have hs : St (Know.of w) _ (blk bp (.cells #[.int .i64 (nd.pg).lev, (.slice a1 nd.pg.sl.length cap1), .string (nd.pg).hi, .bool (nd.pg).la, .int .u64 (nd.pg).ri] 25) :: slC (.slice a1 nd.pg.sl.length cap1) nd.pg :: memC bm bc L (acc + n + 1) :: blk (b0 + 1) (.cells #[.int .i64 (d).th, .int .i64 (d).sn, .int .i64 (d).no, .int .i64 (d).ch, .int .i64 (d).re, .int .i64 (d).fa, .int .u64 (d).cl] 30) :: rowC (.slice (some ⟨gk, 0, none⟩) ks.length kc) 9 1 ks.length (stRow ks) :: []) := (hs.re [2, 3, 0, 1, 4, 5, 6] rfl).tail.tail
          go_upto_region 12 with (fail)
          rw [← hbp]
          clear hbp
          have hsl := (show St (Know.of w) _ (rowC (.slice a1 nd.pg.sl.length cap1) 132 2 nd.pg.sl.length (slRow nd.pg.sl) :: _) from hs.b1).row_slots (by omega)
          have hany : (nd.pg.sl.any fun s => s.k.toList == key.toList) = true := List.any_eq_true.2 ⟨_, List.mem_of_getElem? Hq.out, beq_self_eq_true _⟩
          have qf := refFind_any (cap := cap1) (key := key) _ hsl
          have qf2 := fun wz (hy : ∃ x : Ext, wz = over (w7.alloc (.cells #[.int .i64 (nd.pg).lev, (.slice a1 nd.pg.sl.length cap1), .string (nd.pg).hi, .bool (nd.pg).la, .int .u64 (nd.pg).ri] 25)) x) => refFind_any (cap := cap1) (key := key) wz (hsl.same (Pure.below hy))
          rw [hany, ← Hq2.out] at qf2
          have Qf := Lib.hid qf2
          have kp := hs.k0
          have c0 := (show St (Know.of w) _ (rowC _ _ _ _ _ :: _) from hs.b4).row_cell (show (stRow ks)[i]? = some (.string key) by simp [stRow, Hkey.out])
          have Hs := Lib.hid hs
          clear hs qf qf2 hany hsl
          refine region_pure (by kernel_rfl) (by as_aux_lemma => kernel_rfl) ?_
          repeat (go_big_quiet_step ((go_at_call 84; exact pure_of (Qf.out _ ⟨_, rfl⟩))))
          refine wpQuiet_nil ?_
          intro w8 hb8
          have hs := Hs.out.same hb8
          clear kp c0 hb8 Qf Hs
          have kp := hs.k0
          have hql : q < nd.pg.sl.length := (List.getElem?_eq_some_iff.1 Hq.out).1
          obtain ⟨g1, hg1, c1⟩ := (show St (Know.of w) w8 (rowC (.slice a1 nd.pg.sl.length cap1) 132 2 nd.pg.sl.length (slRow nd.pg.sl) :: _) from hs.b1).row_at (show (slRow nd.pg.sl)[q * 2 + 1]? = some (.int .u64 ((i + 1 : Nat) : Int)) from (slRow_at _ _ _ Hq.out).2)
          subst hg1
          have hwz : IntKind.u64.wrap (wrap64 ((i : Int) + 1)) = ((i + 1 : Nat) : Int) := by rw [wrap64_idn (by omega) (by omega), IntKind.wrap_u64]; omega
          go_wp2
          go_roundw
          case rel => exact ⟨i + 1, acc + n + 1, by go_num, by omega, by omega, hs.tail.tail⟩
          case measure => simp [intOf]; omega
        · have hp2 : s'.pc ≠ 2 := by omega
          rw [decide_eq_false hp] at q
          have Q := Lib.hid q
          clear q
          go_wp2_with fail
          refine (Q.out).mono ?_
          clear Q
          rintro e w6 ⟨rfl, _, hI, ho⟩
          have HI := Lib.hid hI
          clear hI
          go_wp2
          go_roundw
          case rel => exact ⟨n + 1, m - 1, s', by omega, by go_num, hp2, HI, ho⟩
          case measure => simp [intOf]; omega
    · obtain rfl : i = ks.length := by omega
      have hpa := HT.out.1.pos_all Hl.out
      have HR := Lib.hid (HT.out.1.ok.rows 0 l Hl.out)
      have hll := List.sum_le_of_mem' Hl.out
      have hcnt := HT.out.1.ok.count
      have hll : l.length ≤ 100 := by omega
      have hl1 := HR.out.ne
      have hs40 : Hid (∀ j, j ≤ l.length → slPos l j ≤ 40) := Lib.hid (fun j hj => by
        have h1 := slPos_mono l j l.length hj
        omega)
      have Hpa := Lib.hid hpa
      clear hpa hcnt hin hi
      go_wp2
      go_loopw [20, 21, 22, 23] (fun v20 v21 v22 v23 wr => ∃ (j r acc : Nat) (bound : ByteArray) (lst : Bool) (z : Int), v20 = .int .i64 z ∧ v21 = .string bound ∧ v22 = .bool lst ∧ v23 = .int .i64 r ∧ Hid (z = slPos l j) ∧ r + j = l.length ∧ 1 ≤ j ∧ acc ≤ 100000 + r * 1101 ∧ Hid (BdI l j lst bound) ∧ St (Know.of w) wr (memC bm bc L acc :: blk (b0 + 1) (.cells #[.int .i64 (d).th, .int .i64 (d).sn, .int .i64 (d).no, .int .i64 (d).ch, .int .i64 (d).re, .int .i64 (d).fa, .int .u64 (d).cl] 30) :: rowC (.slice ka ks.length kc) 9 1 ks.length (stRow ks) :: [])) (fun _ _ _ v23 _ => 100 - (intOf v23).toNat)
      case atStart => exact ⟨l.length, 0, acc, ⟨#[]⟩, true, _, rfl, rfl, rfl, rfl, Lib.hid (by rw [Hpa.out]), by omega, by omega, by omega, Lib.hid (.inl ⟨rfl, rfl⟩), hs⟩
      case round =>
        clear hs acc hacc
        obtain ⟨j, r, acc, bound, lst, z, rfl, rfl, rfl, rfl, Hz, hrj, hj1, hacc, HB, hs⟩ := hrel
        have HK := Lib.hid (HB.out.key HR.out hj1)
        have kl := hs.k1
        have q := newBelow_st (d := d) HK.out hs
        have Q := Lib.hid q
        clear hs q
        go_wp2_with fail
        refine (Q.out).mono ?_
        clear Q kl
        rintro e w6 ⟨b, rfl, hs⟩
        have ho : BwOn (Know.of w) b bm bc d L bound lst (blk (b0 + 1) (.cells #[.int .i64 (d).th, .int .i64 (d).sn, .int .i64 (d).no, .int .i64 (d).ch, .int .i64 (d).re, .int .i64 (d).fa, .int .u64 (d).cl] 30) :: rowC (.slice ka ks.length kc) 9 1 ks.length (stRow ks) :: []) bw0 acc w6 := BwOn.start (fun B => hs B)
        clear hs
        go_wp2_with fail
        go_loopw [25] (fun vn wr => ∃ (n m : Nat) (s : BwS), n + m ≤ 1101 ∧ vn = .int .i64 n ∧ s.f.pc ≠ 2 ∧ Hid (BwInv d L t bound lst s m) ∧ BwOn (Know.of w) b bm bc d L bound lst (blk (b0 + 1) (.cells #[.int .i64 (d).th, .int .i64 (d).sn, .int .i64 (d).no, .int .i64 (d).ch, .int .i64 (d).re, .int .i64 (d).fa, .int .u64 (d).cl] 30) :: rowC (.slice ka ks.length kc) 9 1 ks.length (stRow ks) :: []) s (acc + n) wr) (fun v _ => 1101 - (intOf v).toNat)
        case atStart =>
          have hc := Nat.mul_le_mul HT.out.1.ok.count hns.out
          exact ⟨0, _, bw0, by omega, rfl, by decide, Lib.hid BwInv.start, ho⟩
        case round =>
          clear ho
          obtain ⟨n, m, s, hnm, rfl, hpc, HI, ho⟩ := hrel
          have hm := (HI.out.step hd.out HT.out.1.cels HT.out.1.ok HK.out hpc).1
          have q := belowStep_inv hd.out HT.out.1.cels HT.out.1.ok HK.out (by omega) HI.out hpc ho
          generalize bwStep d L bound lst s = s' at q
          clear ho
          by_cases hp : 2 ≤ s'.f.pc
          · rw [decide_eq_true hp] at q
            have Q := Lib.hid q
            clear q
            go_wp2_with fail
            refine (Q.out).mono ?_
            clear Q
            rintro e w7 ⟨rfl, _, hI, hs⟩
            obtain ⟨h2, l', i, nd, hl', hi, hid, hpg, hlw, hc1, hc2⟩ := hI.done hp
            obtain rfl : l = l' := Option.some.inj (Hl.out.symm.trans hl')
            obtain ⟨hji, hbd⟩ := HB.out.prev HR.out hi hc1 hc2
            have hnd := HT.out.1.ok.nodes 0 l hl' nd (List.mem_of_getElem? hi)
            obtain ⟨⟨B, va, va2⟩, hs⟩ := hs
            obtain ⟨⟨pc, id, pg, rd⟩, low⟩ := s'
            simp only at h2 hid hpg hlw
            subst h2
            have hpl : pg.sl.length ≤ 40 := by
              have h1 := slPos_succ hi
              have h3 := hs40.out (i + 1) (by omega)
              rw [hpg]; omega
            obtain ⟨acc2, hacc2⟩ : ∃ acc2, acc2 = acc + n + 1 := ⟨_, rfl⟩
            have hs : St (Know.of w) w7 (bwL b .nilFunc B va va2 d bound lst ⟨⟨2, id, pg, rd⟩, low⟩ ++ (memC bm bc L acc2 :: blk (b0 + 1) (.cells #[.int .i64 (d).th, .int .i64 (d).sn, .int .i64 (d).no, .int .i64 (d).ch, .int .i64 (d).re, .int .i64 (d).fa, .int .u64 (d).cl] 30) :: rowC (.slice ka ks.length kc) 9 1 ks.length (stRow ks) :: [])) := by rw [hacc2]; exact hs
            have hacc3 : acc2 ≤ 100000 + (r + 1) * 1101 := by omega
            have q1 := belowNode_st rfl (show pg.sl.length ≤ 1000000 by omega) hs
            have Q := Lib.hid q1
            -- what the slots say
            have Hsl : Hid (∀ (c : Nat) (s : Sl), pg.sl[c]? = some s → ks[slPos l i + c]? = some s.k ∧ (lst = false → klt s.k bound = true)) := Lib.hid (fun c s hc => by
              rw [hpg] at hc
              refine ⟨HT.out.1.slot_at hl' hi hc, fun e => ?_⟩
              obtain ⟨e1, e2⟩ := hbd e
              rw [← e2]
              exact (hnd.bd s (List.mem_of_getElem? hc)).2 e1)
            have Hz2 : Hid (z = ((slPos l i + pg.sl.length : Nat) : Int)) := Lib.hid (by rw [Hz.out, hji, slPos_succ hi, hpg])
            have hsp := hs40.out (i + 1) (by omega)
            rw [slPos_succ hi, ← hpg] at hsp
            have HB2 : Hid (1 ≤ i → BdI l i false low) := Lib.hid (fun _ => .inr ⟨rfl, nd, hi, hlw⟩)
            have Hl0 : Hid ((i = 0 ∧ (low.toList == []) = true) ∨ (1 ≤ i ∧ (low.toList == []) = false)) := Lib.hid (by
              rcases Nat.eq_zero_or_pos i with h0 | h0
              · refine .inl ⟨h0, ?_⟩
                subst h0
                rw [hlw, HR.out.first nd hi, ByteArray.toList_eq]; rfl
              · refine .inr ⟨h0, ?_⟩
                rcases key_none (key := low) with h | h
                · exact h
                · exfalso
                  obtain ⟨a0, ha0⟩ : ∃ a0, l[0]? = some a0 := ⟨_, List.getElem?_eq_getElem (by omega)⟩
                  have h9 := HR.out.low_lt i 0 a0 nd ha0 hi h0
                  rw [← hlw, h, HR.out.first a0 ha0, klt_irrefl] at h9; cases h9)
            clear hs q1 hp hI hpc hl' hi hid hpg hlw hc1 hc2 hbd hnd hacc2 HB Hz HI HK
            go_wp2_with fail
            refine (Q.out).mono ?_
            clear Q
            rintro e w8 ⟨va', rfl, hs⟩
            obtain ⟨a1, cap1, hv, _, _⟩ := hs.row_read
            subst hv
            have hs := hs.made (.cells #[.int .i64 (pg).lev, (.slice a1 pg.sl.length cap1), .string (pg).hi, .bool (pg).la, .int .u64 (pg).ri] 25)
            obtain ⟨bp, hbp⟩ : ∃ bp, bp = w8.heap.size := ⟨_, rfl⟩
            rw [← hbp] at hs
            have hs : St (Know.of w) _ (blk bp (.cells #[.int .i64 (pg).lev, (.slice a1 pg.sl.length cap1), .string (pg).hi, .bool (pg).la, .int .u64 (pg).ri] 25) :: slC (.slice a1 pg.sl.length cap1) pg :: memC bm bc L acc2 :: blk (b0 + 1) (.cells #[.int .i64 (d).th, .int .i64 (d).sn, .int .i64 (d).no, .int .i64 (d).ch, .int .i64 (d).re, .int .i64 (d).fa, .int .u64 (d).cl] 30) :: rowC (.slice ka ks.length kc) 9 1 ks.length (stRow ks) :: []) := (hs.re [2, 3, 0, 1, 4, 5, 6] rfl).tail.tail
            have kp := hs.k0
            obtain ⟨s0, hs0⟩ : ∃ s0, s0 = slPos l i := ⟨_, rfl⟩
            rw [← hs0] at Hsl Hz2 hsp
            have Hs0 := Lib.hid hs0
            clear hs0
            go_upto_region 24 with (fail)
            rw [← hbp]
            clear hbp
            have hw0 : wrap64 ((pg.sl.length : Int) - 1) = (pg.sl.length : Int) - 1 := by unfold wrap64; omega
            go_wp2
            clear kp hw0
            go_loopw [20, 29] (fun v20 v29 wr => ∃ (c : Nat) (y x : Int), v20 = .int .i64 y ∧ v29 = .int .i64 x ∧ c ≤ pg.sl.length ∧ Hid (y = ((s0 + c : Nat) : Int) ∧ x = (c : Int) - 1) ∧ St (Know.of w) wr (blk bp (.cells #[.int .i64 (pg).lev, (.slice a1 pg.sl.length cap1), .string (pg).hi, .bool (pg).la, .int .u64 (pg).ri] 25) :: slC (.slice a1 pg.sl.length cap1) pg :: memC bm bc L acc2 :: blk (b0 + 1) (.cells #[.int .i64 (d).th, .int .i64 (d).sn, .int .i64 (d).no, .int .i64 (d).ch, .int .i64 (d).re, .int .i64 (d).fa, .int .u64 (d).cl] 30) :: rowC (.slice ka ks.length kc) 9 1 ks.length (stRow ks) :: [])) (fun _ v29 _ => (intOf v29 + 1).toNat)
            case atStart => exact ⟨pg.sl.length, _, _, rfl, rfl, Nat.le_refl _, Lib.hid ⟨Hz2.out, rfl⟩, hs⟩
            case round =>
              clear hs
              obtain ⟨c, y, x, rfl, rfl, hc, HC, hs⟩ := hrel
              rcases Nat.eq_zero_or_pos c with h0 | h0
              · obtain ⟨hy, hx⟩ := HC.out
                subst h0
                obtain rfl : x = -1 := by rw [hx]; rfl
                have Hy : Hid (y = (s0 : Int)) := Lib.hid hy
                clear hy hx HC
                rcases Hl0.out with ⟨hi0, hlw0⟩ | ⟨hi0, hlw0⟩
                · obtain rfl : y = 0 := by rw [Hy.out, Hs0.out, hi0]; rfl
                  clear hi0
                  go_wp2
                  go_ret
                  exact ⟨rfl, hs.below (Know.Le.refl _)⟩
                · go_wp2
                  go_roundw
                  case rel => exact ⟨i, r + 1, acc2, low, false, y, rfl, rfl, rfl, by go_num, Lib.hid (by rw [Hy.out, Hs0.out]), by omega, hi0, hacc3, Lib.hid (HB2.out hi0), hs.tail.tail⟩
                  case measure => simp [intOf]; omega
              · obtain ⟨c, rfl⟩ : ∃ c', c = c' + 1 := ⟨c - 1, by omega⟩
                obtain ⟨hy, hx⟩ := HC.out
                obtain rfl : x = (c : Int) := by rw [hx]; omega
                obtain ⟨s, hsc⟩ : ∃ s, pg.sl[c]? = some s := ⟨_, List.getElem?_eq_getElem (by omega)⟩
                obtain ⟨hk1, hk2⟩ := Hsl.out c s hsc
                obtain ⟨m2, hm2⟩ : ∃ m2 : Nat, m2 = s0 + c := ⟨_, rfl⟩
                rw [← hm2] at hk1
                have Hk1 := Lib.hid hk1
                have Hk2 := Lib.hid hk2
                have Hsc := Lib.hid hsc
                have hwy : wrap64 (y - 1) = (m2 : Int) := by rw [hy, hm2]; unfold wrap64; omega
                have hwx : wrap64 ((c : Int) - 1) = (c : Int) - 1 := by unfold wrap64; omega
                have Hwx := Lib.hid hwx
                have Hwy := Lib.hid hwy
                have hm3 : m2 ≤ 40 := by omega
                have Hm2 := Lib.hid hm2
                obtain ⟨gk, hgk, _⟩ := (show St (Know.of w) wr (rowC _ _ _ _ _ :: _) from hs.b4).row_at (show (stRow ks)[m2]? = some (.string s.k) by simp [stRow, hk1])
                obtain ⟨gs, hgs, _⟩ := (show St (Know.of w) wr (rowC (.slice a1 pg.sl.length cap1) 132 2 pg.sl.length (slRow pg.sl) :: _) from hs.b1).row_at (show (slRow pg.sl)[c * 2]? = some (.string s.k) from (slRow_at _ _ _ hsc).1)
                subst hgk hgs
                clear hy hx HC hsc hk1 hk2 hwx hwy hm2 h0
                go_upto_region 27 with (fail)
                go_cut [22, 141] (fun v22 v wx => v22 = .bool lst ∧ v = .bool false ∧ St (Know.of w) wx (blk bp (.cells #[.int .i64 (pg).lev, (.slice (some ⟨gs, 0, none⟩) pg.sl.length cap1), .string (pg).hi, .bool (pg).la, .int .u64 (pg).ri] 25) :: slC (.slice (some ⟨gs, 0, none⟩) pg.sl.length cap1) pg :: memC bm bc L acc2 :: blk (b0 + 1) (.cells #[.int .i64 (d).th, .int .i64 (d).sn, .int .i64 (d).no, .int .i64 (d).ch, .int .i64 (d).re, .int .i64 (d).fa, .int .u64 (d).cl] 30) :: rowC (.slice (some ⟨gk, 0, none⟩) ks.length kc) 9 1 ks.length (stRow ks) :: []))
                case first =>
                  as_aux_lemma =>
                  rcases Bool.eq_false_or_eq_true lst with hl2 | hl2
                  · go_wp2
                    go_meet
                    exact ⟨by rw [hl2], rfl, hs⟩
                  · have h1 := Hk2.out hl2
                    have h2 := klt_asymm h1
                    have h3 : (s.k.toList == bound.toList) = false := by
                      rcases kle_cases bound s.k with ⟨_, _, e⟩ | ⟨e, _⟩ | ⟨e, _⟩
                      · cases e2 : (s.k.toList == bound.toList) with
                        | false => rfl
                        | true =>
                          have : s.k = bound := key_ext (by simpa using e2)
                          rw [this, klt_irrefl] at h1; cases h1
                      · rw [h1] at e; cases e
                      · rw [h1] at e; cases e
                    have kp := hs.k0
                    have c1 := (show St (Know.of w) wr (rowC (.slice (some ⟨gs, 0, none⟩) pg.sl.length cap1) 132 2 pg.sl.length (slRow pg.sl) :: _) from hs.b1).row_cell (show (slRow pg.sl)[c * 2]? = some (.string s.k) from (slRow_at _ _ _ Hsc.out).1)
                    go_wp2
                    go_meet
                    exact ⟨by rw [hl2], rfl, hs⟩
                case rest =>
                clear hs
                obtain ⟨rfl, rfl, hs⟩ := hcut
                go_upto_region 29 with (fail)
                rw [Hwy.out]
                have hm0 : decide ((m2 : Int) < 0) = false := decide_eq_false (by omega)
                have hkk : (s.k.toList == s.k.toList) = true := beq_self_eq_true _
                have kp := hs.k0
                have c1 := (show St (Know.of w) wc (rowC (.slice (some ⟨gs, 0, none⟩) pg.sl.length cap1) 132 2 pg.sl.length (slRow pg.sl) :: _) from hs.b1).row_cell (show (slRow pg.sl)[c * 2]? = some (.string s.k) from (slRow_at _ _ _ Hsc.out).1)
                have hml : m2 < ks.length := (List.getElem?_eq_some_iff.1 Hk1.out).1
                have c2 := (show St (Know.of w) wc (rowC _ _ _ _ _ :: _) from hs.b4).row_cell (show (stRow ks)[m2]? = some (.string s.k) by simp [stRow, Hk1.out])
                have Hs := Lib.hid hs
                clear hs
                refine region_pure (by kernel_rfl) (by as_aux_lemma => kernel_rfl) ?_
                repeat (go_big_quiet_step (fail))
                refine wpQuiet_nil ?_
                intro w9 hb9
                have hs := Hs.out.same hb9
                clear kp c1 c2 hb9 Hs hm0 hkk
                have hwx := Hwx.out
                go_wp2
                go_roundw
                case rel => exact ⟨c, (m2 : Int), (c : Int) - 1, rfl, rfl, by omega, Lib.hid ⟨by rw [Hm2.out], rfl⟩, hs⟩
                case measure => simp [intOf]
          · have hp2 : s'.f.pc ≠ 2 := by omega
            rw [decide_eq_false hp] at q
            have Q := Lib.hid q
            clear q
            go_wp2_with fail
            refine (Q.out).mono ?_
            clear Q
            rintro e w7 ⟨rfl, _, hI, ho⟩
            have HI := Lib.hid hI
            clear hI
            go_wp2
            go_roundw
            case rel => exact ⟨n + 1, m - 1, s', by omega, by go_num, hp2, HI, ho⟩
            case measure => simp [intOf]; omega
end Go.Proofs.Ytfgjanponijkhaa
