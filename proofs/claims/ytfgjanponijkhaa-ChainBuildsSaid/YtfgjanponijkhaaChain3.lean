/- blinktreelaw10's read: a Lookup with nobody else running. -/
import Derived.Test.YtfgjanponijkhaaChain2
namespace Go.Proofs.Ytfgjanponijkhaa
open Go.RowKit
set_option maxRecDepth 100000

section
variable {K : Know} {d : Cfg} {ch tm : Int} {L : List Cel}
theorem lkEnd_at (s : ChS) : (lkEnd s).at' = s.at' := by unfold lkEnd; split <;> rfl
theorem trEnd_at (s : ChS) : (trEnd s).at' = s.at' := by unfold trEnd; split <;> rfl
theorem wkStep_ok {en : ChS → ChS} (hen : ∀ s, (en s).at' = s.at') (hL : CelsOk L) {s : ChS} (h : s.Ok) : (wkStep en d ch tm L s).Ok := by
  have go : ∀ (s : ChS) (r : Int), 0 ≤ r ∧ r < 18446744073709551616 → (wkGo en s r).Ok := by
    intro s r hr
    unfold ChS.Ok wkGo
    split
    · rw [hen]; exact hr
    · exact hr
  unfold wkStep
  split
  · exact go _ _ (hL _)
  · split
    · unfold ChS.Ok; rw [hen]; exact h
    · exact h
  · exact go _ _ (hL _)
theorem lkStep_ok (hL : CelsOk L) {s : ChS} (h : s.Ok) : (lkStep d ch tm L s).Ok := by
  unfold lkStep
  split
  · exact wkStep_ok lkEnd_at hL h
  · split
    · split <;> exact h
    · exact h
theorem lk_ok (hL : CelsOk L) (n : Nat) : (it (lkStep d ch tm L) n lk0).Ok := by
  induction n with
  | zero => exact ⟨by show (0 : Int) ≤ 0; decide, by show (0 : Int) < 18446744073709551616; decide⟩
  | succ n ih => rw [it_succ]; exact lkStep_ok hL ih
/-- Behind the end nothing changes. -/
theorem lk_end {n m : Nat} {s : ChS} (h : (it (lkStep d ch tm L) n s).pc = 4) (hm : n ≤ m) : it (lkStep d ch tm L) m s = it (lkStep d ch tm L) n s := it_rest rfl (lk_fix h) hm
theorem lk_le {s : ChS} (h : s.pc ≤ 4) : (lkStep d ch tm L s).pc ≤ 4 := by
  have e : ∀ s : ChS, (lkEnd s).pc ≤ 4 := by intro s; unfold lkEnd; split <;> simp
  have go : ∀ (s : ChS) (r : Int), (wkGo lkEnd s r).pc ≤ 4 := by intro s r; unfold wkGo; split; exact e _; simp
  unfold lkStep
  split
  · unfold wkStep
    split
    · exact go _ _
    · split; exact e _; simp
    · exact go _ _
  · split
    · split <;> simp
    · exact h
theorem lk_it_le (n : Nat) : (it (lkStep d ch tm L) n lk0).pc ≤ 4 := by
  induction n with
  | zero => show 0 ≤ 4; decide
  | succ n ih => rw [it_succ]; exact lk_le ih

set_option maxHeartbeats 1000000 in
theorem read_st {F : List Comp} {w : World} {bm bc : Nat} {acc : Nat} {vs : List Ver} (hd : d.Ok) (hch : 0 ≤ ch ∧ ch < 18446744073709551616) (hL : CelsOk L) (hl : Linked d L (getC L (d.chain ch)).n vs) (hn : vs.length ≤ 200) (ha : acc ≤ 900000000000)
    (hs : St K w (memC bm bc L acc :: F)) :
    Calls Try.prog 37 #[.agg #[.int .i64 d.th, .int .i64 d.sn, .int .i64 d.no, .int .i64 d.ch, .int .i64 d.re, .int .i64 d.fa, .int .u64 d.cl], .pointer (some ⟨bm, 0, none⟩), .int .u64 ch, .int .u64 tm] w fun e w' => ∃ acc', e = .returned (.tuple #[.string (vval tm vs).1, .bool (vval tm vs).2]) ∧ acc' ≤ acc + 500 ∧ St K w' (memC bm bc L acc' :: F) := by
  have hfin := lk_final (tm := tm) hl (N := 500) (by omega)
  obtain ⟨r1, hr1⟩ : ∃ r, r = (vval tm vs).1 := ⟨_, rfl⟩
  obtain ⟨r2, hr2⟩ : ∃ r, r = (vval tm vs).2 := ⟨_, rfl⟩
  rw [← hr1, ← hr2] at hfin ⊢
  have Hfin := Lib.hid hfin
  have HL := Lib.hid hL
  have Hd := Lib.hid hd
  clear hfin hr1 hr2 hl hn hL hd
  have hs := hs.pass (.cells #[.int .i64 d.th, .int .i64 d.sn, .int .i64 d.no, .int .i64 d.ch, .int .i64 d.re, .int .i64 d.fa, .int .u64 d.cl] 30)
  go_enter Try.func37, Try.ntmps37
  go_wp2_with fail
  refine (newLookup_st (d := d) (ch := ch) (tm := tm) hs).mono ?_
  clear hs
  rintro e w1 ⟨b, rfl, hs⟩
  go_wp2
  go_loopw [11] (fun v wr => ∃ (n acc' : Nat), n ≤ 500 ∧ v = .int .i64 n ∧ acc' ≤ acc + n ∧ St K wr (lkC b d ch tm (it (lkStep d ch tm L) n lk0) :: memC bm bc L acc' :: F)) (fun v _ => 500 - (intOf v).toNat)
  case atStart => exact ⟨0, acc, by omega, rfl, by omega, hs⟩
  case round =>
    clear hs
    obtain ⟨n, acc', hn, rfl, hacc, hs⟩ := hrel
    by_cases hlt : n < 500
    · have q := lkStep_st Hd.out hch (lk_ok HL.out n) (by omega) hs
      rw [← it_succ (lkStep d ch tm L) n lk0] at q
      clear hs
      cases ho : decide (4 ≤ (it (lkStep d ch tm L) (n + 1) lk0).pc) with
      | true =>
        rw [ho] at q
        have Q := Lib.hid q
        have e5 : it (lkStep d ch tm L) (n + 1) lk0 = it (lkStep d ch tm L) 500 lk0 := (lk_end (by have := lk_it_le (d := d) (ch := ch) (tm := tm) (L := L) (n + 1); have := of_decide_eq_true ho; omega) (by omega)).symm
        have E5 := Lib.hid e5
        clear q ho e5
        go_wp2_with fail
        refine (Q.out).mono ?_
        rintro e w2 ⟨rfl, hs⟩
        clear Q
        go_wp2_with fail
        refine (lkValue_st hs).mono ?_
        clear hs
        rintro e w3 ⟨rfl, hs⟩
        go_wp2
        go_ret2
        refine ⟨_, ?_, ?_, hs.tail⟩
        · rw [E5.out, Hfin.out.2.1, Hfin.out.2.2]; rfl
        · have := accTo_le 4 (it (lkStep d ch tm L) n lk0).pc acc'; omega
      | false =>
        rw [ho] at q
        have Q := Lib.hid q
        clear q ho
        go_wp2_with fail
        refine (Q.out).mono ?_
        rintro e w2 ⟨rfl, hs⟩
        clear Q
        go_wp2
        go_roundw
        case rel => exact ⟨n + 1, _, by omega, by go_num, by have := accTo_le 4 (it (lkStep d ch tm L) n lk0).pc acc'; omega, hs⟩
        case measure => simp [intOf]; omega
    · obtain rfl : n = 500 := by omega
      go_wp2_with fail
      refine (lkValue_st hs).mono ?_
      clear hs
      rintro e w3 ⟨rfl, hs⟩
      go_wp2
      go_ret2
      refine ⟨_, ?_, ?_, hs.tail⟩
      · rw [Hfin.out.2.1, Hfin.out.2.2]; rfl
      · omega
end
end Go.Proofs.Ytfgjanponijkhaa
