/- The walk of DescentBelow. -/
import Derived.Test.YtfgjanponijkhaaLaw11d
import Derived.Test.YtfgjanponijkhaaBelowA
namespace Go.Proofs.Ytfgjanponijkhaa
open Go.RowKit
set_option maxRecDepth 100000
section
variable {K : Know} {w : World} {F : List Comp} {b bm bc : Nat} {d : Cfg} {L : List Cel} {acc : Nat} {key : ByteArray} {last : Bool} {s : BwS} {t : List (List Nd)} {m : Nat}
/-- Below, in a world. -/
def BwOn (K : Know) (b bm bc : Nat) (d : Cfg) (L : List Cel) (key : ByteArray) (last : Bool) (F : List Comp) (s : BwS) (acc : Nat) (w : World) : Prop :=
  ∃ (x : VisB × Value × Value), St K w (bwL b (stV (fdPv b x.1 s.f.pc)) x.1 x.2.1 x.2.2 d key last s ++ memC bm bc L acc :: F)
theorem BwOn.start (hs : ∀ B, St K w (bwL b (stV (some (rootFV b))) B (.slice none 0 0) (.slice none 0 0) d key last bw0 ++ memC bm bc L acc :: F)) : BwOn K b bm bc d L key last F bw0 acc w :=
  ⟨(⟨0, 0, 0, 0, 0, 0⟩, .slice none 0 0, .slice none 0 0), hs _⟩
theorem belowStep_inv (hd : d.Ok) (hL : CelsOk L) (ht : TreeOk d L t) (hkey : last = true ∨ klt ⟨#[]⟩ key = true) (ha : acc ≤ 1000000) (h : BwInv d L t key last s m) (hpc : s.f.pc ≠ 2) (hs : BwOn K b bm bc d L key last F s acc w) :
    Calls Try.prog 82 #[(.pointer (some ⟨b, 0, none⟩)), (.pointer (some ⟨bm, 0, none⟩))] w fun e w' => e = .returned (.bool (decide (2 ≤ (bwStep d L key last s).f.pc))) ∧ 1 ≤ m ∧ BwInv d L t key last (bwStep d L key last s) (m - 1) ∧ BwOn K b bm bc d L key last F (bwStep d L key last s) (acc + 1) w' := by
  obtain ⟨h1, h2, h3, h4⟩ := h.step hd hL ht hkey hpc
  obtain ⟨x, hs⟩ := hs
  refine (belowStep_st hd hL (by omega) h3 h4 hs).mono ?_
  rintro e w' ⟨rfl, hs'⟩
  rw [show fdAcc s.f.pc acc = acc + 1 by unfold fdAcc; rw [if_neg hpc]] at hs'
  exact ⟨rfl, h1, h2, hs'⟩
end
theorem want_below {lev : Nat} {l : List Nd} {i : Nat} {nd : Nd} {key : ByteArray} {last : Bool} (h : RowOk lev l) (hi : l[i]? = some nd) (h1 : last = true ∨ klt nd.low key = true) (h2 : nd.pg.la = true ∨ (last = false ∧ klt nd.pg.hi key = false)) :
    ∃ wv : Nat → Nat, wv 0 = 0 ∧ (∀ (j : Nat) (x : Nd), l[j]? = some x → wv (j + 1) = if (last || klt x.low key) then j else wv j) ∧ wv l.length = i := by
  have hil := (List.getElem?_eq_some_iff.1 hi).1
  refine ⟨fun j => if i < j then i else j - 1, by simp, fun j x hj => ?_, by show (if i < l.length then i else _) = i; rw [if_pos hil]⟩
  rcases Nat.lt_trichotomy j i with hji | hji | hji
  · have hc : (last || klt x.low key) = true := by
      rcases h1 with h1 | h1
      · rw [h1]; rfl
      · rw [klt_trans (h.low_lt i j x nd hj hi hji) h1, Bool.or_true]
    rw [hc]
    show (if i < j + 1 then i else j + 1 - 1) = _
    rw [if_neg (by omega)]; simp
  · subst hji
    rw [hi] at hj
    cases hj
    have hc : (last || klt nd.low key) = true := by
      rcases h1 with h1 | h1
      · rw [h1]; rfl
      · rw [h1, Bool.or_true]
    rw [hc]
    show (if j < j + 1 then j else _) = _
    rw [if_pos (by omega)]; simp
  · rw [h.below_last hi hj h2 hji]
    show (if i < j + 1 then i else _) = if (false = true) then j else (if i < j then i else _)
    rw [if_pos (by omega), if_pos hji]; simp
set_option maxHeartbeats 8000000 in
theorem descentBelow_walk (a : Option Addr) (len cap : Nat) (f : Nat → ByteArray) (fanout sh : Int) (hide : Bool) (key : ByteArray) (at' : Int) (last : Bool) (hsh : 0 ≤ sh ∧ sh < 18446744073709551616) (_ : key.size ≤ maxLen) (w : World) (hz : StrsIn w a len f) :
    Calls Try.prog 14 #[.slice a len cap, .int .i64 fanout, .int .u64 sh, .bool hide, .string key, .int .i64 at', .bool last] w fun e w' => e = .returned (.bool true) ∧ Below w.heap.size w w' := by
  obtain ⟨d, hd, hfa, hno, Qt⟩ := tree_ex2 cap fanout hide hz hsh
  go_enter Try.func14, Try.ntmps14
  go_wp2_with fail
  refine (Qt.out _ _ (St.start w)).mono ?_
  rintro e w1 ⟨bm, bc, L, t, ks, ka, kc, rfl, HT, hs⟩
  have hs := (hs.made (.cells #[.int .i64 (d).th, .int .i64 (d).sn, .int .i64 (d).no, .int .i64 (d).ch, .int .i64 (d).re, .int .i64 (d).fa, .int .u64 (d).cl] 27)).made (.cells #[.int .i64 (d).th, .int .i64 (d).sn, .int .i64 (d).no, .int .i64 (d).ch, .int .i64 (d).re, .int .i64 (d).fa, .int .u64 (d).cl] 30)
  simp only [World.size_alloc] at hs
  obtain ⟨b0, hb0⟩ : ∃ b0, b0 = w1.heap.size := ⟨_, rfl⟩
  have QA := Lib.hid (fun (W : World) (cs : List Comp) (h : St (Know.of w) W cs) => awake11_st h)
  go_wp2_with fail
  rw [← hb0] at hs ⊢
  clear hb0
  refine (QA.out _ _ hs).mono ?_
  clear hs
  rintro e w2 ⟨rfl, hs⟩
  by_cases hkz : (100 : Int) < (key.size : Int)
  · have hkz := decide_eq_true hkz
    have q := QA.out _ _ hs
    have Q := Lib.hid q
    clear hs q
    go_wp2_with fail
    refine (Q.out).mono ?_
    rintro e w3 ⟨rfl, hs⟩
    go_wp2
    go_ret
    exact ⟨rfl, hs.below (Know.Le.refl _)⟩
  have hkz := decide_eq_false hkz
  go_upto_region 4 with (fail)
  clear hkz
  go_cut [62] (fun v50 wx => ∃ c1 : Bool, v50 = .bool c1 ∧ Hid (c1 = true → 0 < ks.length) ∧ St (Know.of w) wx [blk (b0 + 1) (.cells #[.int .i64 (d).th, .int .i64 (d).sn, .int .i64 (d).no, .int .i64 (d).ch, .int .i64 (d).re, .int .i64 (d).fa, .int .u64 (d).cl] 30), blk b0 (.cells #[.int .i64 (d).th, .int .i64 (d).sn, .int .i64 (d).no, .int .i64 (d).ch, .int .i64 (d).re, .int .i64 (d).fa, .int .u64 (d).cl] 27), memC bm bc L 0, rowC (.slice ka ks.length kc) 9 1 ks.length (stRow ks)])
  case first =>
    as_aux_lemma =>
    by_cases hk0 : 0 < ks.length
    · go_wp2
      go_meet
      exact ⟨_, rfl, Lib.hid (fun _ => hk0), hs⟩
    · go_wp2
      go_meet
      exact ⟨_, rfl, Lib.hid (fun h => by simp at h), hs⟩
  case rest =>
  clear hs
  obtain ⟨c1, rfl, Hc1, hs⟩ := hcut
  apply_assumption
  go_cut [4] (fun v3 wx => ∃ key' : ByteArray, v3 = .string key' ∧ St (Know.of w) wx [blk (b0 + 1) (.cells #[.int .i64 (d).th, .int .i64 (d).sn, .int .i64 (d).no, .int .i64 (d).ch, .int .i64 (d).re, .int .i64 (d).fa, .int .u64 (d).cl] 30), blk b0 (.cells #[.int .i64 (d).th, .int .i64 (d).sn, .int .i64 (d).no, .int .i64 (d).ch, .int .i64 (d).re, .int .i64 (d).fa, .int .u64 (d).cl] 27), memC bm bc L 0, rowC (.slice ka ks.length kc) 9 1 ks.length (stRow ks)])
  case first =>
    as_aux_lemma =>
    cases c1 with
    | false =>
      go_wp2
      go_meet
      exact ⟨key, rfl, hs⟩
    | true =>
      have hk0 := Hc1.out rfl
      have hk40 := HT.out.2.len
      obtain ⟨i, hi, hi2⟩ : ∃ i : Nat, at' % (ks.length : Int) = i ∧ i < ks.length := ⟨(at' % (ks.length : Int)).toNat, by have := Int.emod_nonneg at' (show (ks.length : Int) ≠ 0 by omega); omega, by have := Int.emod_lt_of_pos at' (show (0 : Int) < ks.length by omega); omega⟩
      have q := fun w => mod_any at' ks.length (by omega) (by omega) w
      rw [hi] at q
      have Q := Lib.hid q
      obtain ⟨g, rfl, hc⟩ := hs.b3.row_at (show (stRow ks)[i]? = some (.string ks[i]) by simp [stRow, hi2])
      have Hi2 := Lib.hid hi2
      clear q hi
      go_wp2_with fail
      refine (Q.out _).mono ?_
      rintro e w3 ⟨rfl, rfl⟩
      go_wp2
      go_meet
      exact ⟨_, rfl, hs⟩
  case rest =>
  clear hs Hc1 c1
  obtain ⟨key', rfl, hs⟩ := hcut
  apply_assumption
  have kb := hs.k1
  have q := kitView_st (d := d) (hs.re [2, 0, 1] rfl)
  have Q := Lib.hid q
  clear q hs
  go_wp2_with fail
  refine (Q.out).mono ?_
  clear Q kb
  rintro e w3 ⟨g, rfl, hle, hg, hs⟩
  obtain ⟨K2, hK2⟩ : ∃ K2, K2 = (Know.of w).add g (.cells (flat L).toArray 41) := ⟨_, rfl⟩
  rw [← hK2] at hle hg hs
  have Hg := Lib.hid hg
  have Hle := Lib.hid hle
  have hs := hs.made (.cells #[.int .i64 (d).th, .int .i64 (d).sn, .int .i64 (d).no, .int .i64 (d).ch, .int .i64 (d).re, .int .i64 (d).fa, .int .u64 (d).cl, .slice (some ⟨g, 0, none⟩) L.length L.length] 110)
  obtain ⟨bv, hbv⟩ : ∃ bv, bv = w3.heap.size := ⟨_, rfl⟩
  rw [← hbv] at hs
  have hs := hs.re [1, 0] rfl
  have kl := hs.k2
  clear hg hle hK2
  by_cases hc : key' = ⟨#[]⟩ ∧ last = false
  · obtain ⟨rfl, rfl⟩ := hc
    have hk0 : ((⟨#[]⟩ : ByteArray).toList == []) = true := by rw [ByteArray.toList_eq]; rfl
    have q := newBelow0_st (d := d) hs
    have Q := Lib.hid q
    clear hs q
    go_wp2_with fail
    rw [← hbv]
    clear hbv
    refine (Q.out).mono ?_
    clear Q kl
    rintro e w5 ⟨b, rfl, hs⟩
    have hs : St K2 w5 (blk b (.cells (pathCells (stV (some nilFV)) d 0 pg0 (.slice none 0 0) (.func (.func 134) #[(.pointer (some ⟨b, 0, none⟩))] #[]) [.string ⟨#[]⟩, .bool false, .string ⟨#[]⟩]).toArray 206) :: memC bm bc L 0 :: blk bv (.cells #[.int .i64 (d).th, .int .i64 (d).sn, .int .i64 (d).no, .int .i64 (d).ch, .int .i64 (d).re, .int .i64 (d).fa, .int .u64 (d).cl, .slice (some ⟨g, 0, none⟩) L.length L.length] 110) :: blk (b0 + 1) (.cells #[.int .i64 (d).th, .int .i64 (d).sn, .int .i64 (d).no, .int .i64 (d).ch, .int .i64 (d).re, .int .i64 (d).fa, .int .u64 (d).cl] 30) :: blk b0 (.cells #[.int .i64 (d).th, .int .i64 (d).sn, .int .i64 (d).no, .int .i64 (d).ch, .int .i64 (d).re, .int .i64 (d).fa, .int .u64 (d).cl] 27) :: rowC (.slice ka ks.length kc) 9 1 ks.length (stRow ks) :: []) := hs
    go_wp2_with fail
    go_loopw [21] (fun vn wr => vn = .int .i64 1 ∧ St K2 wr (blk b (.cells (pathCells (stV (some nilFV)) d 0 pg0 (.slice none 0 0) (.func (.func 134) #[(.pointer (some ⟨b, 0, none⟩))] #[]) [.string ⟨#[]⟩, .bool false, .string ⟨#[]⟩]).toArray 206) :: memC bm bc L 0 :: blk bv (.cells #[.int .i64 (d).th, .int .i64 (d).sn, .int .i64 (d).no, .int .i64 (d).ch, .int .i64 (d).re, .int .i64 (d).fa, .int .u64 (d).cl, .slice (some ⟨g, 0, none⟩) L.length L.length] 110) :: blk (b0 + 1) (.cells #[.int .i64 (d).th, .int .i64 (d).sn, .int .i64 (d).no, .int .i64 (d).ch, .int .i64 (d).re, .int .i64 (d).fa, .int .u64 (d).cl] 30) :: blk b0 (.cells #[.int .i64 (d).th, .int .i64 (d).sn, .int .i64 (d).no, .int .i64 (d).ch, .int .i64 (d).re, .int .i64 (d).fa, .int .u64 (d).cl] 27) :: rowC (.slice ka ks.length kc) 9 1 ks.length (stRow ks) :: [])) (fun _ _ => 0)
    case atStart => exact ⟨rfl, hs⟩
    case round =>
      clear hs
      obtain ⟨rfl, hs⟩ := hrel
      have q := belowStep0_st (bm := bm) (B := ⟨0, 0, 0, 0, 0, 0⟩) hs
      have Q := Lib.hid q
      clear hs q
      go_wp2_with fail
      refine (Q.out).mono ?_
      clear Q
      rintro e w7 ⟨rfl, hs⟩
      have q := belowNode_st rfl (show pg0.sl.length ≤ 1000000 from Nat.zero_le _) hs
      have Q := Lib.hid q
      clear hs q
      go_wp2_with fail
      refine (Q.out).mono ?_
      clear Q
      rintro e w8 ⟨va', rfl, hs⟩
      obtain ⟨a1, cap1, hv, _, _⟩ := (show St K2 w8 (rowC va' 132 2 pg0.sl.length (slRow pg0.sl) :: _) from hs).row_read
      subst hv
      have hs := hs.made (.cells #[.int .i64 (pg0).lev, (.slice a1 pg0.sl.length cap1), .string (pg0).hi, .bool (pg0).la, .int .u64 (pg0).ri] 25)
      obtain ⟨bp, hbp⟩ : ∃ bp, bp = w8.heap.size := ⟨_, rfl⟩
      rw [← hbp] at hs
      have hs : St K2 _ (memC bm bc L 0 :: blk bp (.cells #[.int .i64 (pg0).lev, (.slice a1 pg0.sl.length cap1), .string (pg0).hi, .bool (pg0).la, .int .u64 (pg0).ri] 25) :: slC (.slice a1 pg0.sl.length cap1) pg0 :: blk bv (.cells #[.int .i64 (d).th, .int .i64 (d).sn, .int .i64 (d).no, .int .i64 (d).ch, .int .i64 (d).re, .int .i64 (d).fa, .int .u64 (d).cl, .slice (some ⟨g, 0, none⟩) L.length L.length] 110) :: []) := (hs.re [2, 3, 6, 7, 8, 4, 0, 1, 5] rfl).tail.tail.tail.tail.tail
      go_upto_region 12 with (fail)
      rw [← hbp]
      clear hbp
      go_cut [109] (fun v wx => v = .bool false ∧ St K2 wx (memC bm bc L 0 :: blk bp (.cells #[.int .i64 (pg0).lev, (.slice a1 pg0.sl.length cap1), .string (pg0).hi, .bool (pg0).la, .int .u64 (pg0).ri] 25) :: slC (.slice a1 pg0.sl.length cap1) pg0 :: blk bv (.cells #[.int .i64 (d).th, .int .i64 (d).sn, .int .i64 (d).no, .int .i64 (d).ch, .int .i64 (d).re, .int .i64 (d).fa, .int .u64 (d).cl, .slice (some ⟨g, 0, none⟩) L.length L.length] 110) :: []))
      case first =>
        as_aux_lemma =>
        have hw2 : IntKind.u64.wrap (1 : Int) = 1 := by rw [IntKind.wrap_u64]; rfl
        have hge : decide ((5000 : Int) ≤ (1 : Int)) = false := rfl
        have hlen := hs.mem.len
        have Hs := Lib.hid hs
        clear hs
        refine region_effectsK [false, false, false, false, false, false, false, false, false, false, false, true, false, false, true, false, false] (fun | 14 => some (.bool true) | _ => none) [11, 14] (fun | 14 => [11] | _ => [])
          (GR K2 (memC bm bc L 0 :: blk bp (.cells #[.int .i64 (pg0).lev, (.slice a1 pg0.sl.length cap1), .string (pg0).hi, .bool (pg0).la, .int .u64 (pg0).ri] 25) :: slC (.slice a1 pg0.sl.length cap1) pg0 :: blk bv (.cells #[.int .i64 (d).th, .int .i64 (d).sn, .int .i64 (d).no, .int .i64 (d).ch, .int .i64 (d).re, .int .i64 (d).fa, .int .u64 (d).cl, .slice (some ⟨g, 0, none⟩) L.length L.length] 110) :: []) [11, 14] (CsΦ L 11 14))
          (fun W => St K2 W (memC bm bc L 0 :: blk bp (.cells #[.int .i64 (pg0).lev, (.slice a1 pg0.sl.length cap1), .string (pg0).hi, .bool (pg0).la, .int .u64 (pg0).ri] 25) :: slC (.slice a1 pg0.sl.length cap1) pg0 :: blk bv (.cells #[.int .i64 (d).th, .int .i64 (d).sn, .int .i64 (d).no, .int .i64 (d).ch, .int .i64 (d).re, .int .i64 (d).fa, .int .u64 (d).cl, .slice (some ⟨g, 0, none⟩) L.length L.length] 110) :: [])) ?aSqz (by kernel_rfl) ?hBqz ?Hqz ?haSqz ?h0qz ?hIqz ?hRqz ?hEqz ?hQqz
        case hBqz => as_aux_lemma => kernel_rfl
        case Hqz =>
          intro W2 hs
          have kv := hs.tail.k2
          have hm3 := hs.mem
          have Qa := Lib.hid (fun W (hy : ∃ x : Ext, W = over W2 x) => accesses_st (hm3.same (Pure.below hy)))
          clear hs hm3
          simp only [withK]
          repeat (go_big_quiet_step ((go_at_call 28; exact pure_of_same (Qa.out _ ⟨_, rfl⟩))))
          refine wpQuiet_nil ?_
          rfl
        case haSqz => rfl
        case h0qz => exact GR.start Hs.out
        case hIqz => exact fun ρ W2 h => h.rest
        case hRqz => exact fun ρ W2 W3 h hb => h.same hb
        case hEqz =>
          refine ⟨?e11qz, ?e14qz, trivial⟩
          case e11qz =>
            intro o ho ρ W2 h hcl h11 hd2 af haf
            obtain rfl := Option.some.inj ho
            replace haf : af = fillD _ ρ [] _ := haf
            obtain ⟨C, R', h1, hs, hnext⟩ := h.step CsΦ.mono 11 [] (by decide) (by decide) (by decide) h11 (by simp)
            simp only [fillD] at haf
            subst haf
            have Hn := Lib.hid hnext
            clear hnext h1 h hcl hd2 h11
            go_wp2_with fail
            refine (kitCells_st hs).mono ?_
            rintro e W3 ⟨g8, rfl, hs'⟩
            have Hs' := Lib.hid hs'
            clear hs hs'
            go_wp2
            exact ⟨rfl, _, rfl, fun u hu => (by cases hu), Hn.out _ _ W3 ⟨g8, rfl, rfl⟩ Hs'.out⟩
          case e14qz =>
            intro o ho ρ W2 h hcl h14 hd2 af haf
            obtain rfl := Option.some.inj ho
            replace haf : af = fillD _ ρ [11] _ := haf
            obtain ⟨v11, h11⟩ := Option.isSome_iff_exists.1 (hd2 11 (by show _ ∈ [11]; simp))
            obtain ⟨cs8, R8, ⟨g8, rfl, rfl⟩, hs8⟩ := h.at 11 (by simp) h11
            have Q14 := Lib.hid (same_cells W2 g8 g L hlen hs8.head (hs8.know g _ Hg.out))
            have H := Lib.hid h
            have H14 := Lib.hid h14
            simp only [fillD, h11, Option.getD_some, dstAt, List.getElem?_cons_succ, List.getElem?_cons_zero, Option.bind_some, Option.bind_none, Act.put, List.setIfInBounds_toArray, List.set_cons_zero, List.set_cons_succ] at haf
            subst haf
            clear hs8 h hcl hd2 h11 h14
            go_wp2_with fail
            refine (Q14.out).mono ?_
            rintro e W3 ⟨rfl, hb⟩
            have Hb := Lib.hid hb
            clear hb
            go_wp2
            exact ⟨rfl, _, rfl, fun u hu => Option.some.inj hu, (H.out.same Hb.out).know CsΦ.mono 14 (by decide) (by simp) H14.out _ ⟨rfl, rfl⟩⟩
        case hQqz =>
          intro ρ W2 h hall
          have hs := h.rest
          clear h
          simp only [fillD, Option.getD_some, dstAt, List.getElem?_cons_succ, List.getElem?_cons_zero, Option.bind_some, Option.bind_none, Act.put, List.setIfInBounds_toArray, List.set_cons_zero, List.set_cons_succ]
          go_wp2
          go_meet
          exact ⟨rfl, hs⟩
      case rest =>
      clear hs
      obtain ⟨rfl, hs⟩ := hcut
      have hm3 := hs.mem
      have Hs := Lib.hid hs
      clear hs
      go_wp2_with fail
      refine (accesses_st hm3).mono ?_
      rintro e w10 ⟨rfl, rfl⟩
      go_wp2
      go_ret
      exact ⟨rfl, Hs.out.below Hle.out⟩
  · have hkey : last = true ∨ klt ⟨#[]⟩ key' = true := by
      cases last with
      | true => exact .inl rfl
      | false =>
        right
        cases e : klt ⟨#[]⟩ key' with
        | true => rfl
        | false => exact absurd ⟨klt_total (klt_empty _) e, rfl⟩ hc
    have HK := Lib.hid hkey
    have q := newBelow_st (d := d) hkey hs
    have Q := Lib.hid q
    clear hs q hc hkey
    go_wp2_with fail
    rw [← hbv]
    clear hbv
    refine (Q.out).mono ?_
    clear Q kl
    rintro e w6 ⟨b, rfl, hs⟩
    have ho : BwOn K2 b bm bc d L key' last (blk bv (.cells #[.int .i64 (d).th, .int .i64 (d).sn, .int .i64 (d).no, .int .i64 (d).ch, .int .i64 (d).re, .int .i64 (d).fa, .int .u64 (d).cl, .slice (some ⟨g, 0, none⟩) L.length L.length] 110) :: blk (b0 + 1) (.cells #[.int .i64 (d).th, .int .i64 (d).sn, .int .i64 (d).no, .int .i64 (d).ch, .int .i64 (d).re, .int .i64 (d).fa, .int .u64 (d).cl] 30) :: blk b0 (.cells #[.int .i64 (d).th, .int .i64 (d).sn, .int .i64 (d).no, .int .i64 (d).ch, .int .i64 (d).re, .int .i64 (d).fa, .int .u64 (d).cl] 27) :: rowC (.slice ka ks.length kc) 9 1 ks.length (stRow ks) :: []) bw0 0 w6 := BwOn.start (fun B => hs B)
    clear hs
    have hTall := HT.out.1.ok.tall
    go_wp2_with fail
    go_loopw [21] (fun vn wr => ∃ (n q m : Nat) (s : BwS), n + m ≤ 1102 ∧ Hid (q + 1 = n) ∧ vn = .int .i64 n ∧ s.f.pc ≠ 2 ∧ Hid (BwInv d L t key' last s m) ∧ BwOn K2 b bm bc d L key' last (blk bv (.cells #[.int .i64 (d).th, .int .i64 (d).sn, .int .i64 (d).no, .int .i64 (d).ch, .int .i64 (d).re, .int .i64 (d).fa, .int .u64 (d).cl, .slice (some ⟨g, 0, none⟩) L.length L.length] 110) :: blk (b0 + 1) (.cells #[.int .i64 (d).th, .int .i64 (d).sn, .int .i64 (d).no, .int .i64 (d).ch, .int .i64 (d).re, .int .i64 (d).fa, .int .u64 (d).cl] 30) :: blk b0 (.cells #[.int .i64 (d).th, .int .i64 (d).sn, .int .i64 (d).no, .int .i64 (d).ch, .int .i64 (d).re, .int .i64 (d).fa, .int .u64 (d).cl] 27) :: rowC (.slice ka ks.length kc) 9 1 ks.length (stRow ks) :: []) s q wr) (fun v _ => 1102 - (intOf v).toNat)
    case atStart =>
      have hns : nodeSteps d ≤ 11 := by unfold nodeSteps; have := hfa.out; omega
      have hc := Nat.mul_le_mul HT.out.1.ok.count hns
      exact ⟨1, 0, _, bw0, by omega, Lib.hid rfl, rfl, by decide, Lib.hid BwInv.start, ho⟩
    case round =>
      clear ho
      obtain ⟨n, q0, m, s, hnm, Hq, rfl, hpc, HI, ho⟩ := hrel
      have hm := (HI.out.step hd.out HT.out.1.cels HT.out.1.ok HK.out hpc).1
      have q := belowStep_inv hd.out HT.out.1.cels HT.out.1.ok HK.out (by have := Hq.out; omega) HI.out hpc ho
      generalize bwStep d L key' last s = s' at q
      clear ho
      by_cases hp : 2 ≤ s'.f.pc
      · rw [decide_eq_true hp] at q
        have Q := Lib.hid q
        clear q
        go_wp2_with fail
        refine (Q.out).mono ?_
        clear Q
        rintro e w7 ⟨rfl, _, hI, hs⟩
        obtain ⟨h2, l, i, nd, hl, hi, hid, hpg, hlw, hc1, hc2⟩ := hI.done hp
        have hrow := HT.out.1.ok.rows 0 l hl
        obtain ⟨wv, W1, W2, W3⟩ := want_below hrow hi hc1 hc2
        obtain ⟨⟨B, va, va2⟩, hs⟩ := hs
        obtain ⟨⟨pc, id, pg, rd⟩, low⟩ := s'
        simp only at h2 hid hpg hlw
        subst h2
        rw [Hq.out] at hs
        have hs : St K2 w7 (bwL b .nilFunc B va va2 d key' last ⟨⟨2, id, pg, rd⟩, low⟩ ++ (memC bm bc L n :: blk bv (.cells #[.int .i64 (d).th, .int .i64 (d).sn, .int .i64 (d).no, .int .i64 (d).ch, .int .i64 (d).re, .int .i64 (d).fa, .int .u64 (d).cl, .slice (some ⟨g, 0, none⟩) L.length L.length] 110) :: blk (b0 + 1) (.cells #[.int .i64 (d).th, .int .i64 (d).sn, .int .i64 (d).no, .int .i64 (d).ch, .int .i64 (d).re, .int .i64 (d).fa, .int .u64 (d).cl] 30) :: blk b0 (.cells #[.int .i64 (d).th, .int .i64 (d).sn, .int .i64 (d).no, .int .i64 (d).ch, .int .i64 (d).re, .int .i64 (d).fa, .int .u64 (d).cl] 27) :: rowC (.slice ka ks.length kc) 9 1 ks.length (stRow ks) :: [])) := hs
        have hN := HT.out.1.ok.nodes 0 l hl
        have hnd := hN nd (List.mem_of_getElem? hi)
        have hpl : pg.sl.length ≤ 1000000 := by rw [hpg]; have := hnd.page.le; have := hd.out.fa2; omega
        have hll := List.sum_le_of_mem' hl
        have hcnt := HT.out.1.ok.count
        have hll : l.length ≤ 100 := by omega
        have hil := (List.getElem?_eq_some_iff.1 hi).1
        have q1 := belowNode_st rfl hpl hs
        have Q := Lib.hid q1
        have HW := Lib.hid (And.intro W2 W3)
        have Hw0 := Lib.hid W1
        have HN := Lib.hid hN
        have HR := Lib.hid hrow
        have Hl := Lib.hid hl
        have Hi := Lib.hid hi
        have Hpg := Lib.hid hpg
        have Hid' := Lib.hid hid
        have Hlw := Lib.hid hlw
        clear hs q1 hp hI hpc W1 W2 W3 hN hnd hl hi hrow hc1 hc2 hid hpg hlw
        go_wp2_with fail
        refine (Q.out).mono ?_
        clear Q
        rintro e w8 ⟨va', rfl, hs⟩
        obtain ⟨a1, cap1, hv, _, _⟩ := hs.row_read
        subst hv
        have hs := hs.made (.cells #[.int .i64 (pg).lev, (.slice a1 pg.sl.length cap1), .string (pg).hi, .bool (pg).la, .int .u64 (pg).ri] 25)
        obtain ⟨bp, hbp⟩ : ∃ bp, bp = w8.heap.size := ⟨_, rfl⟩
        rw [← hbp] at hs
        have hs : St K2 _ (memC bm bc L n :: blk bp (.cells #[.int .i64 (pg).lev, (.slice a1 pg.sl.length cap1), .string (pg).hi, .bool (pg).la, .int .u64 (pg).ri] 25) :: slC (.slice a1 pg.sl.length cap1) pg :: blk bv (.cells #[.int .i64 (d).th, .int .i64 (d).sn, .int .i64 (d).no, .int .i64 (d).ch, .int .i64 (d).re, .int .i64 (d).fa, .int .u64 (d).cl, .slice (some ⟨g, 0, none⟩) L.length L.length] 110) :: []) := (hs.re [2, 3, 6, 7, 8, 4, 0, 1, 5] rfl).tail.tail.tail.tail.tail
        go_upto_region 12 with (fail)
        rw [← hbp]
        clear hbp
        go_cut [109] (fun v wx => v = .bool false ∧ St K2 wx (memC bm bc L n :: blk bp (.cells #[.int .i64 (pg).lev, (.slice a1 pg.sl.length cap1), .string (pg).hi, .bool (pg).la, .int .u64 (pg).ri] 25) :: slC (.slice a1 pg.sl.length cap1) pg :: blk bv (.cells #[.int .i64 (d).th, .int .i64 (d).sn, .int .i64 (d).no, .int .i64 (d).ch, .int .i64 (d).re, .int .i64 (d).fa, .int .u64 (d).cl, .slice (some ⟨g, 0, none⟩) L.length L.length] 110) :: []))
        case first =>
          as_aux_lemma =>
          have hw2 : IntKind.u64.wrap (n : Int) = n := by rw [IntKind.wrap_u64]; omega
          have hge : decide ((5000 : Int) ≤ (n : Int)) = false := decide_eq_false (by omega)
          have hlen := hs.mem.len
          have Hs := Lib.hid hs
          clear hs
          refine region_effectsK [false, false, false, false, false, false, false, false, false, false, false, true, false, false, true, false, false] (fun | 14 => some (.bool true) | _ => none) [11, 14] (fun | 14 => [11] | _ => [])
            (GR K2 (memC bm bc L n :: blk bp (.cells #[.int .i64 (pg).lev, (.slice a1 pg.sl.length cap1), .string (pg).hi, .bool (pg).la, .int .u64 (pg).ri] 25) :: slC (.slice a1 pg.sl.length cap1) pg :: blk bv (.cells #[.int .i64 (d).th, .int .i64 (d).sn, .int .i64 (d).no, .int .i64 (d).ch, .int .i64 (d).re, .int .i64 (d).fa, .int .u64 (d).cl, .slice (some ⟨g, 0, none⟩) L.length L.length] 110) :: []) [11, 14] (CsΦ L 11 14))
            (fun W => St K2 W (memC bm bc L n :: blk bp (.cells #[.int .i64 (pg).lev, (.slice a1 pg.sl.length cap1), .string (pg).hi, .bool (pg).la, .int .u64 (pg).ri] 25) :: slC (.slice a1 pg.sl.length cap1) pg :: blk bv (.cells #[.int .i64 (d).th, .int .i64 (d).sn, .int .i64 (d).no, .int .i64 (d).ch, .int .i64 (d).re, .int .i64 (d).fa, .int .u64 (d).cl, .slice (some ⟨g, 0, none⟩) L.length L.length] 110) :: [])) ?aSq (by kernel_rfl) ?hBq ?Hq ?haSq ?h0q ?hIq ?hRq ?hEq ?hQq
          case hBq => as_aux_lemma => kernel_rfl
          case Hq =>
            intro W2 hs
            have kv := hs.tail.k2
            have hm3 := hs.mem
            have Qa := Lib.hid (fun W (hy : ∃ x : Ext, W = over W2 x) => accesses_st (hm3.same (Pure.below hy)))
            clear hs hm3
            simp only [withK]
            repeat (go_big_quiet_step ((go_at_call 28; exact pure_of_same (Qa.out _ ⟨_, rfl⟩))))
            refine wpQuiet_nil ?_
            rfl
          case haSq => rfl
          case h0q => exact GR.start Hs.out
          case hIq => exact fun ρ W2 h => h.rest
          case hRq => exact fun ρ W2 W3 h hb => h.same hb
          case hEq =>
            refine ⟨?e11q, ?e14q, trivial⟩
            case e11q =>
              intro o ho ρ W2 h hcl h11 hd2 af haf
              obtain rfl := Option.some.inj ho
              replace haf : af = fillD _ ρ [] _ := haf
              obtain ⟨C, R', h1, hs, hnext⟩ := h.step CsΦ.mono 11 [] (by decide) (by decide) (by decide) h11 (by simp)
              simp only [fillD] at haf
              subst haf
              have Hn := Lib.hid hnext
              clear hnext h1 h hcl hd2 h11
              go_wp2_with fail
              refine (kitCells_st hs).mono ?_
              rintro e W3 ⟨g8, rfl, hs'⟩
              have Hs' := Lib.hid hs'
              clear hs hs'
              go_wp2
              exact ⟨rfl, _, rfl, fun u hu => (by cases hu), Hn.out _ _ W3 ⟨g8, rfl, rfl⟩ Hs'.out⟩
            case e14q =>
              intro o ho ρ W2 h hcl h14 hd2 af haf
              obtain rfl := Option.some.inj ho
              replace haf : af = fillD _ ρ [11] _ := haf
              obtain ⟨v11, h11⟩ := Option.isSome_iff_exists.1 (hd2 11 (by show _ ∈ [11]; simp))
              obtain ⟨cs8, R8, ⟨g8, rfl, rfl⟩, hs8⟩ := h.at 11 (by simp) h11
              have Q14 := Lib.hid (same_cells W2 g8 g L hlen hs8.head (hs8.know g _ Hg.out))
              have H := Lib.hid h
              have H14 := Lib.hid h14
              simp only [fillD, h11, Option.getD_some, dstAt, List.getElem?_cons_succ, List.getElem?_cons_zero, Option.bind_some, Option.bind_none, Act.put, List.setIfInBounds_toArray, List.set_cons_zero, List.set_cons_succ] at haf
              subst haf
              clear hs8 h hcl hd2 h11 h14
              go_wp2_with fail
              refine (Q14.out).mono ?_
              rintro e W3 ⟨rfl, hb⟩
              have Hb := Lib.hid hb
              clear hb
              go_wp2
              exact ⟨rfl, _, rfl, fun u hu => Option.some.inj hu, (H.out.same Hb.out).know CsΦ.mono 14 (by decide) (by simp) H14.out _ ⟨rfl, rfl⟩⟩
          case hQq =>
            intro ρ W2 h hall
            have hs := h.rest
            clear h
            simp only [fillD, Option.getD_some, dstAt, List.getElem?_cons_succ, List.getElem?_cons_zero, Option.bind_some, Option.bind_none, Act.put, List.setIfInBounds_toArray, List.set_cons_zero, List.set_cons_succ]
            go_wp2
            go_meet
            exact ⟨rfl, hs⟩
        case rest =>
        clear hs
        obtain ⟨rfl, hs⟩ := hcut
        go_upto_region 14 with (fail)
        go_cut [6, 115] (fun v6 v wx => v6 = .bool last ∧ v = .bool false ∧ St K2 wx (memC bm bc L n :: blk bp (.cells #[.int .i64 (pg).lev, (.slice a1 pg.sl.length cap1), .string (pg).hi, .bool (pg).la, .int .u64 (pg).ri] 25) :: slC (.slice a1 pg.sl.length cap1) pg :: blk bv (.cells #[.int .i64 (d).th, .int .i64 (d).sn, .int .i64 (d).no, .int .i64 (d).ch, .int .i64 (d).re, .int .i64 (d).fa, .int .u64 (d).cl, .slice (some ⟨g, 0, none⟩) L.length L.length] 110) :: []))
        case first =>
          as_aux_lemma =>
          rcases Bool.eq_false_or_eq_true last with hl2 | hl2
          · cases hk0 : (key'.toList == [])
            all_goals
              go_wp2
              go_meet
              exact ⟨by rw [hl2], rfl, hs⟩
          · have hk0 : (key'.toList == []) = false := by
              rcases key_none (key := key') with h | h
              · exact h
              · have := HK.out
                rw [hl2, h, klt_irrefl] at this
                simp at this
            go_wp2
            go_meet
            exact ⟨by rw [hl2], rfl, hs⟩
        case rest =>
        clear hs
        obtain ⟨rfl, rfl, hs⟩ := hcut
        have hL : L.length ≤ 1000000 := by have := HT.out.1.clen; have := hd.out.cells_bd; omega
        have kv := hs.tail.k2
        have q := viewLevel_st (k := 0) hd.out hno.out HT.out.1.ok (Nat.zero_le _) Hg.out hL hs
        rw [show lvIds t 0 = l.map (·.id) by unfold lvIds; rw [Hl.out], show ((0 : Nat) : Int) = 0 from rfl] at q
        simp only [List.length_map] at q
        have Q := Lib.hid q
        clear q hs
        go_wp2_with fail
        refine (Q.out).mono ?_
        clear Q kv
        rintro e w9 ⟨v, rfl, hs⟩
        obtain ⟨aa, ca, rfl, _, _⟩ := hs.row_read
        have kv := hs.tail.tail.k2
        have q := lows_st hd.out hll HN.out Hg.out hL hs
        have Q := Lib.hid q
        clear q hs
        go_wp2_with fail
        refine (Q.out).mono ?_
        clear Q kv
        rintro e w10 ⟨v, rfl, hs⟩
        obtain ⟨al, cl, rfl, _, _⟩ := hs.row_read
        go_wp2_with fail
        go_loopw [27, 28] (fun v27 v28 wr => ∃ j : Nat, v27 = .int .i64 (wv j : Nat) ∧ v28 = .int .i64 j ∧ j ≤ l.length ∧ St K2 wr (rowC (.slice al (l.length + 1) cl) 9 1 (l.length + 1) (stRow (lowsOf l)) :: rowC (.slice aa l.length ca) 23 1 l.length (u64Row (l.map (·.id))) :: memC bm bc L n :: blk bp (.cells #[.int .i64 (pg).lev, (.slice a1 pg.sl.length cap1), .string (pg).hi, .bool (pg).la, .int .u64 (pg).ri] 25) :: slC (.slice a1 pg.sl.length cap1) pg :: blk bv (.cells #[.int .i64 (d).th, .int .i64 (d).sn, .int .i64 (d).no, .int .i64 (d).ch, .int .i64 (d).re, .int .i64 (d).fa, .int .u64 (d).cl, .slice (some ⟨g, 0, none⟩) L.length L.length] 110) :: [])) (fun _ v28 _ => l.length - (intOf v28).toNat)
        case atStart => exact ⟨0, by rw [Hw0.out]; rfl, rfl, by omega, hs⟩
        case round =>
          clear hs
          obtain ⟨j, rfl, rfl, hj, hs⟩ := hrel
          by_cases hjl : j < l.length
          · obtain ⟨x, hx⟩ : ∃ x, l[j]? = some x := ⟨_, List.getElem?_eq_getElem hjl⟩
            have hst := HW.out.1 j x hx
            obtain ⟨gl, hgl, c1⟩ := hs.row_at (show (stRow (lowsOf l))[j]? = some (.string x.low) by simp [stRow, HR.out.lows_at hx])
            subst hgl
            have Hst := Lib.hid hst
            clear hst hx
            go_upto_region 22 with (fail)
            go_cut [6, 150] (fun v6 v wx => v6 = .bool last ∧ v = .bool (last || klt x.low key') ∧ St K2 wx (rowC (.slice (some ⟨gl, 0, none⟩) (l.length + 1) cl) 9 1 (l.length + 1) (stRow (lowsOf l)) :: rowC (.slice aa l.length ca) 23 1 l.length (u64Row (l.map (·.id))) :: memC bm bc L n :: blk bp (.cells #[.int .i64 (pg).lev, (.slice a1 pg.sl.length cap1), .string (pg).hi, .bool (pg).la, .int .u64 (pg).ri] 25) :: slC (.slice a1 pg.sl.length cap1) pg :: blk bv (.cells #[.int .i64 (d).th, .int .i64 (d).sn, .int .i64 (d).no, .int .i64 (d).ch, .int .i64 (d).re, .int .i64 (d).fa, .int .u64 (d).cl, .slice (some ⟨g, 0, none⟩) L.length L.length] 110) :: []))
            case first =>
              as_aux_lemma =>
              rcases Bool.eq_false_or_eq_true last with hl2 | hl2
              · go_wp2
                go_meet
                exact ⟨by rw [hl2], by rw [hl2]; rfl, hs⟩
              · go_wp2
                go_meet
                exact ⟨by rw [hl2], by rw [hl2]; rfl, hs⟩
            case rest =>
            clear hs c1
            obtain ⟨rfl, rfl, hs⟩ := hcut
            obtain ⟨cnd, hcnd⟩ : ∃ cnd, cnd = (last || klt x.low key') := ⟨_, rfl⟩
            rw [← hcnd] at Hst ⊢
            clear hcnd
            cases cnd with
            | true =>
              go_wp2
              go_roundw
              case rel => exact ⟨j + 1, by rw [Hst.out]; rfl, by go_num, by omega, hs⟩
              case measure => simp [intOf]; omega
            | false =>
              go_wp2
              go_roundw
              case rel => exact ⟨j + 1, by rw [Hst.out]; rfl, by go_num, by omega, hs⟩
              case measure => simp [intOf]; omega
          · obtain rfl : j = l.length := by omega
            have hfin : wv l.length = i := HW.out.2
            rw [hfin]
            go_upto_region 24 with (fail)
            clear hfin
            have hll0 : 0 < l.length := by omega
            obtain ⟨gl, hgl, _⟩ := hs.row_at (show (stRow (lowsOf l))[i]? = some (.string low) by simp [stRow, HR.out.lows_at Hi.out, Hlw.out])
            obtain ⟨ga, hga, _⟩ := (show St K2 wr (rowC _ _ _ _ _ :: _) from hs.b1).row_at (show (u64Row (l.map (·.id)))[i]? = some (.int .u64 id) by simp [u64Row, Hi.out, Hid'.out])
            subst hgl hga
            have hid0 : (id == id) = true := beq_self_eq_true _
            have hlw0 : (low.toList == low.toList) = true := beq_self_eq_true _
            have q := viewPage_st hd.out (HN.out nd (List.mem_of_getElem? Hi.out)).id.1 (HN.out nd (List.mem_of_getElem? Hi.out)).id.2 (HN.out nd (List.mem_of_getElem? Hi.out)).page Hg.out hL hs
            have q := (fun (W : World) cs (h : St K2 W cs) => viewPage_st hd.out (HN.out nd (List.mem_of_getElem? Hi.out)).id.1 (HN.out nd (List.mem_of_getElem? Hi.out)).id.2 (HN.out nd (List.mem_of_getElem? Hi.out)).page Hg.out hL h)
            rw [← Hid'.out, ← Hpg.out] at q
            have QN := Lib.hid q
            have Hs := Lib.hid hs
            clear q hs
            refine region_effectsK [false, false, false, false, false, false, false, false, false, false, false, false, false, false, false, false, false, false, false, false, false, false, false, true, true, false, false] (fun | 24 => some (.bool true) | _ => none) [23, 24] (fun | 24 => [23] | _ => [])
              (GR K2 (rowC (.slice (some ⟨gl, 0, none⟩) (l.length + 1) cl) 9 1 (l.length + 1) (stRow (lowsOf l)) :: rowC (.slice (some ⟨ga, 0, none⟩) l.length ca) 23 1 l.length (u64Row (l.map (·.id))) :: memC bm bc L n :: blk bp (.cells #[.int .i64 (pg).lev, (.slice a1 pg.sl.length cap1), .string (pg).hi, .bool (pg).la, .int .u64 (pg).ri] 25) :: slC (.slice a1 pg.sl.length cap1) pg :: blk bv (.cells #[.int .i64 (d).th, .int .i64 (d).sn, .int .i64 (d).no, .int .i64 (d).ch, .int .i64 (d).re, .int .i64 (d).fa, .int .u64 (d).cl, .slice (some ⟨g, 0, none⟩) L.length L.length] 110) :: []) [23, 24] (PgΦ pg 23 24))
              (fun W => St K2 W (rowC (.slice (some ⟨gl, 0, none⟩) (l.length + 1) cl) 9 1 (l.length + 1) (stRow (lowsOf l)) :: rowC (.slice (some ⟨ga, 0, none⟩) l.length ca) 23 1 l.length (u64Row (l.map (·.id))) :: memC bm bc L n :: blk bp (.cells #[.int .i64 (pg).lev, (.slice a1 pg.sl.length cap1), .string (pg).hi, .bool (pg).la, .int .u64 (pg).ri] 25) :: slC (.slice a1 pg.sl.length cap1) pg :: blk bv (.cells #[.int .i64 (d).th, .int .i64 (d).sn, .int .i64 (d).no, .int .i64 (d).ch, .int .i64 (d).re, .int .i64 (d).fa, .int .u64 (d).cl, .slice (some ⟨g, 0, none⟩) L.length L.length] 110) :: [])) ?aSf (by kernel_rfl) ?hBf ?Hf ?haSf ?h0f ?hIf ?hRf ?hEf ?hQf
            case hBf => as_aux_lemma => kernel_rfl
            case Hf =>
              intro W2 hs
              have kv := hs.tail.tail.tail.k2
              have kp := hs.tail.tail.k1
              have c1 := (show St K2 W2 (rowC _ _ _ _ _ :: _) from hs).row_cell (show (stRow (lowsOf l))[i]? = some (.string low) by simp [stRow, HR.out.lows_at Hi.out, Hlw.out])
              have c0 := (show St K2 W2 (rowC _ _ _ _ _ :: _) from hs.b1).row_cell (show (u64Row (l.map (·.id)))[i]? = some (.int .u64 id) by simp [u64Row, Hi.out, Hid'.out])
              clear hs
              simp only [withK]
              repeat (go_big_quiet_step (fail))
              refine wpQuiet_nil ?_
              rfl
            case haSf => rfl
            case h0f => exact GR.start Hs.out
            case hIf => exact fun ρ W2 h => h.rest
            case hRf => exact fun ρ W2 W3 h hb => h.same hb
            case hEf =>
              refine ⟨?e23f, ?e24f, trivial⟩
              case e23f =>
                intro o ho ρ W2 h hcl h23 hd2 af haf
                obtain rfl := Option.some.inj ho
                replace haf : af = fillD _ ρ [] _ := haf
                obtain ⟨C, R', h1, hs, hnext⟩ := h.step PgΦ.mono 23 [] (by decide) (by decide) (by decide) h23 (by simp)
                simp only [fillD] at haf
                subst haf
                have Hn := Lib.hid hnext
                clear hnext h1 h hcl hd2 h23
                go_wp2_with fail
                refine (QN.out _ _ hs).mono ?_
                rintro e W3 ⟨va8, rfl, hs'⟩
                obtain ⟨a8, c8, rfl, _, _⟩ := hs'.row_read
                have Hs' := Lib.hid hs'
                clear hs hs'
                go_wp2
                exact ⟨rfl, _, rfl, fun u hu => (by cases hu), Hn.out _ _ W3 ⟨a8, c8, rfl, rfl⟩ Hs'.out⟩
              case e24f =>
                intro o ho ρ W2 h hcl h24 hd2 af haf
                obtain rfl := Option.some.inj ho
                replace haf : af = fillD _ ρ [23] _ := haf
                obtain ⟨v23, h23⟩ := Option.isSome_iff_exists.1 (hd2 23 (by show _ ∈ [23]; simp))
                obtain ⟨cs8, R8, ⟨a8, c8, rfl, rfl⟩, hs8⟩ := h.at 23 (by simp) h23
                have s8 := hs8.row_slots (by omega)
                have sx := (show St K2 W2 (rowC (.slice a1 pg.sl.length cap1) 132 2 pg.sl.length (slRow pg.sl) :: _) from (h.rest).tail.tail.tail.tail).row_slots (by omega)
                have Q24 := Lib.hid (samePage_any (cap := cap1) (cap' := c8) W2 sx s8)
                have H := Lib.hid h
                have H24 := Lib.hid h24
                simp only [fillD, h23, Option.getD_some, dstAt, List.getElem?_cons_succ, List.getElem?_cons_zero, Option.bind_some, Option.bind_none, Act.put, List.setIfInBounds_toArray, List.set_cons_zero, List.set_cons_succ] at haf
                subst haf
                clear hs8 s8 sx h hcl hd2 h23 h24
                go_wp2_with fail
                refine (Q24.out).mono ?_
                rintro e W3 ⟨rfl, hb⟩
                have Hb := Lib.hid hb
                clear hb
                go_wp2
                exact ⟨rfl, _, rfl, fun u hu => Option.some.inj hu, (H.out.same Hb.out).know PgΦ.mono 24 (by decide) (by simp) H24.out _ ⟨rfl, rfl⟩⟩
            case hQf =>
              intro ρ W2 h hall
              have hs := h.rest
              clear h
              simp only [fillD, Option.getD_some, dstAt, List.getElem?_cons_succ, List.getElem?_cons_zero, Option.bind_some, Option.bind_none, Act.put, List.setIfInBounds_toArray, List.set_cons_zero, List.set_cons_succ]
              go_wp2
              go_ret
              exact ⟨rfl, hs.below Hle.out⟩
      · have hp2 : s'.f.pc ≠ 2 := by omega
        rw [decide_eq_false hp] at q
        have Q := Lib.hid q
        clear q
        go_wp2_with fail
        refine (Q.out).mono ?_
        clear Q
        rintro e w7 ⟨rfl, _, hI, ho⟩
        have HI := Lib.hid hI
        clear hI
        go_wp2
        go_roundw
        case rel => exact ⟨n + 1, q0 + 1, m - 1, s', by omega, Lib.hid (by have := Hq.out; omega), by go_num, hp2, HI, ho⟩
        case measure => simp [intOf]; omega
end Go.Proofs.Ytfgjanponijkhaa
