
/- The reference's Insert and Split. -/
import Derived.Test.YtlpdhhhgckpcfaaPageOps
import Derived.Test.YtlpdhhhgckpcfaaRefFind
import Derived.Test.YtlpdhhhgckpcfaaCallVar
namespace Go.Proofs.Ytlpdhhhgckpcfaa
open Go.RowKit
set_option maxRecDepth 100000
section
variable {K : Know} {w : World} {F : List Comp} {pg : Pg} {a : Option Addr} {cap : Nat} {key : ByteArray} {r : Int}
theorem refInsert_res (tmps : Array Value) (w : World) (b : Nat) (v0 v1 v2 v3 v4 u : Value) (hp : tmps[6]? = some (.pointer (some ⟨b, 0, none⟩))) (hq : tmps[7]? = some u) (hk : ∀ k, w.cell? ⟨b, k, none⟩ = (#[v0, v1, v2, v3, v4] : Array Value)[k]?) :
    (results Try.f10 tmps).run Try.prog w = .ok (.tuple #[.agg #[v0, v1, v2, v3, v4], u]) w := by
  simp [results, Try.results10, go_sem, hp, hq, hk]
/-- The slots with a further one, up to a slot. -/
def insTo (l : List Sl) (key : ByteArray) (r : Int) (j : Nat) : List Sl := l.take (loK l key) ++ ⟨key, r⟩ :: (l.drop (loK l key)).take (j - loK l key)
theorem insTo_length {l : List Sl} {key : ByteArray} {r : Int} {j : Nat} (h : loK l key ≤ j) (hj : j ≤ l.length) : (insTo l key r j).length = j + 1 := by
  unfold insTo
  rw [List.length_append, List.length_cons, List.length_take, List.length_take, List.length_drop]; omega
theorem insTo_succ {l : List Sl} {key : ByteArray} {r : Int} {j : Nat} {s : Sl} (h : loK l key ≤ j) (hj : l[j]? = some s) : insTo l key r (j + 1) = insTo l key r j ++ [s] := by
  unfold insTo
  rw [show j + 1 - loK l key = (j - loK l key) + 1 by omega, List.take_add_one, List.getElem?_drop, show loK l key + (j - loK l key) = j by omega, hj]
  simp
set_option maxHeartbeats 4000000 in
theorem refInsert_st (hno : (pg.sl.any fun s => s.k.toList == key.toList) = false) (h100 : pg.sl.length ≤ 100) (hs : St K w (slC (.slice a pg.sl.length cap) pg :: F)) :
    Calls Try.prog 10 #[(.agg #[.int .i64 (pg).lev, (.slice a pg.sl.length cap), .string (pg).hi, .bool (pg).la, .int .u64 (pg).ri]), .string key, .int .u64 r] w fun e w' => ∃ a' c', e = .returned (.tuple #[(.agg #[.int .i64 ((insPg pg key r)).lev, (.slice a' (insPg pg key r).sl.length c'), .string ((insPg pg key r)).hi, .bool ((insPg pg key r)).la, .int .u64 ((insPg pg key r)).ri]), .bool true]) ∧ St K w' (slC (.slice a' (insPg pg key r).sl.length c') (insPg pg key r) :: slC (.slice a pg.sl.length cap) pg :: F) := by
  obtain ⟨iv, hiv0, hiv1, hiv2, hiv3⟩ := info_parts infoSlot
  have Hi0 := Lib.hid hiv0
  have Hi1 := Lib.hid hiv1
  have Hi2 := Lib.hid hiv2
  have Hi3 := Lib.hid hiv3
  clear hiv0 hiv1 hiv2 hiv3
  have hs := (hs.made (.cells #[.int .i64 (pg).lev, (.slice a pg.sl.length cap), .string (pg).hi, .bool (pg).la, .int .u64 (pg).ri] 31)).made (.cells #[.int .i64 0, .slice none 0 0, .string ⟨#[]⟩, .bool false, .int .u64 0] 31)
  rw [World.size_alloc] at hs
  have hsl := (show St K _ (rowC (.slice a pg.sl.length cap) 70 2 pg.sl.length (slRow pg.sl) :: F) from hs.tail.tail).row_slots (by omega)
  have q := refFind_any (cap := cap) (key := key) _ hsl
  rw [hno] at q
  have hlo := loK_le pg.sl key
  obtain ⟨lo, hlo2⟩ : ∃ lo, lo = loK pg.sl key := ⟨_, rfl⟩
  rw [← hlo2] at q hlo
  have Hlo := Lib.hid hlo2
  have Q := Lib.hid q
  clear q hsl hlo2 hno
  obtain ⟨bp, hbp⟩ : ∃ bp, bp = w.heap.size := ⟨_, rfl⟩
  go_enter Try.func10, Try.ntmps10
  go_wp2_with fail
  refine (calls_same hs Q.out).mono ?_
  clear hs Q
  rintro e w2 ⟨rfl, hs⟩
  rw [← hbp] at hs
  have hs : St K w2 (rowC (.slice none 0 0) 70 2 0 (slRow (pg.sl.take 0)) :: blk (bp + 1) (.cells #[.int .i64 0, .slice none 0 0, .string ⟨#[]⟩, .bool false, .int .u64 0] 31) :: blk bp (.cells #[.int .i64 (pg).lev, (.slice a pg.sl.length cap), .string (pg).hi, .bool (pg).la, .int .u64 (pg).ri] 31) :: rowC (.slice a pg.sl.length cap) 70 2 pg.sl.length (slRow pg.sl) :: F) := hs.row_nil
  go_wp2_with fail
  rw [← hbp]
  clear hbp
  go_loopw [10, 11] (fun v10 v11 wr => ∃ (j : Nat) (ao : Option Addr) (co : Nat), v10 = .slice ao j co ∧ v11 = .int .i64 j ∧ j ≤ lo ∧
    St K wr (rowC (.slice ao j co) 70 2 j (slRow (pg.sl.take j)) :: blk (bp + 1) (.cells #[.int .i64 0, .slice none 0 0, .string ⟨#[]⟩, .bool false, .int .u64 0] 31) :: blk bp (.cells #[.int .i64 (pg).lev, (.slice a pg.sl.length cap), .string (pg).hi, .bool (pg).la, .int .u64 (pg).ri] 31) :: rowC (.slice a pg.sl.length cap) 70 2 pg.sl.length (slRow pg.sl) :: F)) (fun _ v11 _ => lo - (intOf v11).toNat)
  case atStart => exact ⟨0, none, 0, rfl, rfl, by omega, hs⟩
  case round =>
    clear hs
    obtain ⟨j, ao, co, rfl, rfl, hj, hs⟩ := hrel
    by_cases hjl : j < lo
    · obtain ⟨s, hsj⟩ : ∃ s, pg.sl[j]? = some s := ⟨_, List.getElem?_eq_getElem (by omega)⟩
      have kp := hs.k2
      have hrow := (show St K wr (rowC (.slice a pg.sl.length cap) 70 2 pg.sl.length (slRow pg.sl) :: F) from hs.tail.tail.tail)
      obtain ⟨g, hg, c0⟩ := hrow.row_at (slRow_at _ _ _ hsj).1
      subst hg
      have c1 := hrow.row_cell (slRow_at _ _ _ hsj).2
      have hpush : slRow (pg.sl.take (j + 1)) = slRow (pg.sl.take j) ++ [.string s.k, .int .u64 s.r] := by rw [List.take_add_one, hsj]; simp [slRow, slCells]
      have Hpush := Lib.hid hpush
      clear hpush hrow hsj
      go_wp2_with (at_builtin; refine append_st _ _ 29 70 _ j 2 24 _ [.string s.k, .int .u64 s.r] (.agg #[.string ⟨#[]⟩, .int .u64 0]) iv hs rfl rfl Try.underlying29 Hi0.out Hi1.out Hi2.out Hi3.out rfl (by decide) rfl rfl rfl (fun u hu => by simp at hu; rcases hu with rfl | rfl <;> rfl) (by omega) (by decide) ?_)
      clear hs kp c0 c1
      intro v' w' hs
      rw [← Hpush.out] at hs
      obtain ⟨ao2, co2, hv, _, _⟩ := hs.row_read
      subst hv
      go_wp2
      go_roundw
      case rel => exact ⟨j + 1, ao2, co2, rfl, by go_num, by omega, hs⟩
      case measure => simp [intOf]; omega
    · obtain rfl : j = lo := by omega
      have hpush : slRow (insTo pg.sl key r j) = slRow (pg.sl.take j) ++ [.string key, .int .u64 r] := by
        unfold insTo
        rw [← Hlo.out, Nat.sub_self]; simp [slRow, slCells]
      have Hpush := Lib.hid hpush
      clear hpush
      go_wp2_with (at_builtin; refine append_st _ _ 29 70 _ j 2 24 _ [.string key, .int .u64 r] (.agg #[.string ⟨#[]⟩, .int .u64 0]) iv hs rfl rfl Try.underlying29 Hi0.out Hi1.out Hi2.out Hi3.out rfl (by decide) rfl rfl rfl (fun u hu => by simp at hu; rcases hu with rfl | rfl <;> rfl) (by omega) (by decide) ?_)
      clear hs
      intro v' w' hs
      rw [← Hpush.out] at hs
      obtain ⟨ao2, co2, hv, _, _⟩ := hs.row_read
      subst hv
      go_wp2_with fail
      go_loopw [10, 12] (fun v10 v12 wr => ∃ (i : Nat) (ao : Option Addr) (co : Nat), v10 = .slice ao (i + 1) co ∧ v12 = .int .i64 i ∧ j ≤ i ∧ i ≤ pg.sl.length ∧
        St K wr (rowC (.slice ao (i + 1) co) 70 2 (i + 1) (slRow (insTo pg.sl key r i)) :: blk (bp + 1) (.cells #[.int .i64 0, .slice none 0 0, .string ⟨#[]⟩, .bool false, .int .u64 0] 31) :: blk bp (.cells #[.int .i64 (pg).lev, (.slice a pg.sl.length cap), .string (pg).hi, .bool (pg).la, .int .u64 (pg).ri] 31) :: rowC (.slice a pg.sl.length cap) 70 2 pg.sl.length (slRow pg.sl) :: F)) (fun _ v12 _ => pg.sl.length - (intOf v12).toNat)
      case atStart => exact ⟨j, ao2, co2, rfl, rfl, by omega, by omega, hs⟩
      case round =>
        clear hs
        obtain ⟨i, ao, co, rfl, rfl, hji, hi, hs⟩ := hrel
        by_cases hin : i < pg.sl.length
        · obtain ⟨s, hsj⟩ : ∃ s, pg.sl[i]? = some s := ⟨_, List.getElem?_eq_getElem hin⟩
          have kp := hs.k2
          have hrow := (show St K wr (rowC (.slice a pg.sl.length cap) 70 2 pg.sl.length (slRow pg.sl) :: F) from hs.tail.tail.tail)
          obtain ⟨g, hg, c0⟩ := hrow.row_at (slRow_at _ _ _ hsj).1
          subst hg
          have c1 := hrow.row_cell (slRow_at _ _ _ hsj).2
          have hpush : slRow (insTo pg.sl key r (i + 1)) = slRow (insTo pg.sl key r i) ++ [.string s.k, .int .u64 s.r] := by rw [insTo_succ (by rw [← Hlo.out]; exact hji) hsj]; simp [slRow, slCells]
          have Hpush := Lib.hid hpush
          clear hpush hrow hsj
          go_wp2_with (at_builtin; refine append_st _ _ 29 70 _ (i + 1) 2 24 _ [.string s.k, .int .u64 s.r] (.agg #[.string ⟨#[]⟩, .int .u64 0]) iv hs rfl rfl Try.underlying29 Hi0.out Hi1.out Hi2.out Hi3.out rfl (by decide) rfl rfl rfl (fun u hu => by simp at hu; rcases hu with rfl | rfl <;> rfl) (by omega) (by decide) ?_)
          clear hs kp c0 c1
          intro v' w' hs
          rw [← Hpush.out] at hs
          obtain ⟨ao2, co2, hv, _, _⟩ := hs.row_read
          subst hv
          go_wp2
          go_roundw
          case rel => exact ⟨i + 1, ao2, co2, rfl, by go_num, by omega, by omega, hs⟩
          case measure => simp [intOf]; omega
        · obtain rfl : i = pg.sl.length := by omega
          have hfin : insTo pg.sl key r pg.sl.length = (insPg pg key r).sl := by
            show _ = insSl pg.sl key r
            unfold insTo insSl
            rw [List.take_of_length_le (l := pg.sl.drop (loK pg.sl key)) (by rw [List.length_drop]; exact Nat.le_refl _)]
          rw [hfin] at hs
          have hlen : (insPg pg key r).sl.length = pg.sl.length + 1 := insSl_length _ _ _
          have Hlen := Lib.hid hlen
          have kp := hs.k2
          have fp := hs.f2
          have kz := hs.k1
          have fz := hs.f1
          have hs : St K _ (blk bp (.cells #[.int .i64 ((insPg pg key r)).lev, (.slice ao (pg.sl.length + 1) co), .string ((insPg pg key r)).hi, .bool ((insPg pg key r)).la, .int .u64 ((insPg pg key r)).ri] 31) :: _) := hs.b2.setL 1 (.slice ao (pg.sl.length + 1) co)
          have hs : St K _ (blk (bp + 1) (.cells #[.int .i64 ((insPg pg key r)).lev, (.slice ao (pg.sl.length + 1) co), .string ((insPg pg key r)).hi, .bool ((insPg pg key r)).la, .int .u64 ((insPg pg key r)).ri] 31) :: _) := ((((hs.b2.setL 0 (.int .i64 (insPg pg key r).lev)).setL 1 (.slice ao (pg.sl.length + 1) co)).setL 2 (.string (insPg pg key r).hi)).setL 3 (.bool (insPg pg key r).la)).setL 4 (.int .u64 (insPg pg key r).ri)
          clear hlen hfin
          go_wp2
          refine bodyPost_ret (refInsert_res _ _ (bp + 1) _ _ _ _ _ _ rfl rfl hs.k0) rfl ?_
          refine ⟨ao, co, by rw [Hlen.out]; rfl, ?_⟩
          unfold slC
          rw [Hlen.out]
          exact (hs.re [0, 1, 2, 3] rfl).tail.tail
theorem refSplit_res (tmps : Array Value) (w : World) (b1 b2 : Nat) (v0 v1 v2 v3 v4 u0 u1 u2 u3 u4 x y : Value) (hp : tmps[4]? = some (.pointer (some ⟨b1, 0, none⟩))) (hq : tmps[5]? = some (.pointer (some ⟨b2, 0, none⟩))) (hx : tmps[6]? = some x) (hy : tmps[7]? = some y)
    (hk : ∀ k, w.cell? ⟨b1, k, none⟩ = (#[v0, v1, v2, v3, v4] : Array Value)[k]?) (hl : ∀ k, w.cell? ⟨b2, k, none⟩ = (#[u0, u1, u2, u3, u4] : Array Value)[k]?) :
    (results Try.f17 tmps).run Try.prog w = .ok (.tuple #[.agg #[v0, v1, v2, v3, v4], .agg #[u0, u1, u2, u3, u4], x, y]) w := by
  simp [results, Try.results17, go_sem, hp, hq, hx, hy, hk, hl]
set_option maxHeartbeats 4000000 in
/-- The reference's Split: the halves lie where the page lay. -/
theorem refSplit_st {g : Nat} (hc : pg.sl.length ≤ cap) (h2 : 2 ≤ pg.sl.length) (h100 : pg.sl.length ≤ 100) (hsz : ∀ s, s ∈ pg.sl → s.k.size ≤ 1000000) (hs : St K w (slC (.slice (some ⟨g, 0, none⟩) pg.sl.length cap) pg :: F)) :
    Calls Try.prog 17 #[(.agg #[.int .i64 (pg).lev, (.slice (some ⟨g, 0, none⟩) pg.sl.length cap), .string (pg).hi, .bool (pg).la, .int .u64 (pg).ri]), .int .u64 r] w fun e w' => e = .returned (.tuple #[(.agg #[.int .i64 ((splL pg r)).lev, (.slice (some ⟨g, 0, none⟩) (splL pg r).sl.length (splL pg r).sl.length), .string ((splL pg r)).hi, .bool ((splL pg r)).la, .int .u64 ((splL pg r)).ri]), (.agg #[.int .i64 ((splR pg)).lev, (.slice (some ⟨g, (splL pg r).sl.length * 2, none⟩) (splR pg).sl.length (cap - (splL pg r).sl.length)), .string ((splR pg)).hi, .bool ((splR pg)).la, .int .u64 ((splR pg)).ri]), .string (splSep pg), .bool true]) ∧
      St K w' (slC (.slice (some ⟨g, 0, none⟩) pg.sl.length cap) pg :: F) := by
  obtain ⟨k, hk⟩ : ∃ k, k = splK pg.sl.length := ⟨_, rfl⟩
  have hk1 : 1 ≤ k ∧ k < pg.sl.length := by rw [hk]; unfold splK; omega
  obtain ⟨x, hx⟩ : ∃ x, pg.sl[k - 1]? = some x := ⟨_, List.getElem?_eq_getElem (by omega)⟩
  obtain ⟨y, hy⟩ : ∃ y, pg.sl[k]? = some y := ⟨_, List.getElem?_eq_getElem hk1.2⟩
  have hsep : splSep pg = if pg.lev = 0 then sepK x.k y.k else y.k := by unfold splSep; rw [← hk, hx, hy]
  have hki : (pg.sl.length : Int) - (pg.sl.length : Int) / 2 = (k : Int) := by rw [hk]; unfold splK; omega
  have Hki := Lib.hid hki
  clear hki
  have Hy := Lib.hid hy
  have Hx := Lib.hid hx
  have Hsep := Lib.hid hsep
  have Hk := Lib.hid hk
  have hs := ((hs.made (.cells #[.int .i64 (pg).lev, (.slice (some ⟨g, 0, none⟩) pg.sl.length cap), .string (pg).hi, .bool (pg).la, .int .u64 (pg).ri] 31)).made (.cells #[.int .i64 0, .slice none 0 0, .string ⟨#[]⟩, .bool false, .int .u64 0] 31)).made (.cells #[.int .i64 0, .slice none 0 0, .string ⟨#[]⟩, .bool false, .int .u64 0] 31)
  simp only [World.size_alloc] at hs
  clear hx hy hsep hk
  obtain ⟨bp, hbp⟩ : ∃ bp, bp = w.heap.size := ⟨_, rfl⟩
  rw [show w.heap.size + 1 + 1 = w.heap.size + 2 by omega, ← hbp] at hs
  have hs : St K _ (blk (bp + 2) (.cells #[.int .i64 0, .slice none 0 0, .string ⟨#[]⟩, .bool false, .int .u64 0] 31) :: blk (bp + 1) (.cells #[.int .i64 0, .slice none 0 0, .string ⟨#[]⟩, .bool false, .int .u64 0] 31) :: blk bp (.cells #[.int .i64 (pg).lev, (.slice (some ⟨g, 0, none⟩) pg.sl.length cap), .string (pg).hi, .bool (pg).la, .int .u64 (pg).ri] 31) :: rowC (.slice (some ⟨g, 0, none⟩) pg.sl.length cap) 70 2 pg.sl.length (slRow pg.sl) :: F) := hs
  go_enter Try.func17, Try.ntmps17
  go_upto_region 4 with (fail)
  rw [show w.heap.size + 1 + 1 = w.heap.size + 2 by omega, ← hbp]
  clear hbp
  go_cut [9] (fun v wx => v = .int .i64 k ∧ St K wx (blk (bp + 2) (.cells #[.int .i64 0, .slice none 0 0, .string ⟨#[]⟩, .bool false, .int .u64 0] 31) :: blk (bp + 1) (.cells #[.int .i64 0, .slice none 0 0, .string ⟨#[]⟩, .bool false, .int .u64 0] 31) :: blk bp (.cells #[.int .i64 (pg).lev, (.slice (some ⟨g, 0, none⟩) pg.sl.length cap), .string (pg).hi, .bool (pg).la, .int .u64 (pg).ri] 31) :: rowC (.slice (some ⟨g, 0, none⟩) pg.sl.length cap) 70 2 pg.sl.length (slRow pg.sl) :: F))
  case first =>
    as_aux_lemma =>
    go_wp2
    go_meet
    exact ⟨by rw [Hki.out], hs⟩
  case rest =>
  clear hs
  obtain ⟨rfl, hs⟩ := hcut
  have kp := hs.k2
  have c1 := (show St K wc (rowC _ 70 2 pg.sl.length (slRow pg.sl) :: F) from hs.tail.tail.tail).row_cell (slRow_at _ _ _ Hy.out).1
  have c0 := (show St K wc (rowC _ 70 2 pg.sl.length (slRow pg.sl) :: F) from hs.tail.tail.tail).row_cell (slRow_at _ _ _ Hx.out).1
  go_upto_region 6 with (fail)
  clear c1
  go_cut [32] (fun v wx => v = .bool (pg.lev == 0) ∧ St K wx (blk (bp + 2) (.cells #[.int .i64 0, .slice none 0 0, .string ⟨#[]⟩, .bool false, .int .u64 0] 31) :: blk (bp + 1) (.cells #[.int .i64 0, .slice none 0 0, .string ⟨#[]⟩, .bool false, .int .u64 0] 31) :: blk bp (.cells #[.int .i64 (pg).lev, (.slice (some ⟨g, 0, none⟩) pg.sl.length cap), .string (pg).hi, .bool (pg).la, .int .u64 (pg).ri] 31) :: rowC (.slice (some ⟨g, 0, none⟩) pg.sl.length cap) 70 2 pg.sl.length (slRow pg.sl) :: F))
  case first =>
    as_aux_lemma =>
    clear c0
    go_wp2
    go_meet
    exact ⟨rfl, hs⟩
  case rest =>
  clear hs kp c0
  obtain ⟨rfl, hs⟩ := hcut
  apply_assumption
  go_cut [10] (fun v wx => v = .string (splSep pg) ∧ St K wx (blk (bp + 2) (.cells #[.int .i64 0, .slice none 0 0, .string ⟨#[]⟩, .bool false, .int .u64 0] 31) :: blk (bp + 1) (.cells #[.int .i64 0, .slice none 0 0, .string ⟨#[]⟩, .bool false, .int .u64 0] 31) :: blk bp (.cells #[.int .i64 (pg).lev, (.slice (some ⟨g, 0, none⟩) pg.sl.length cap), .string (pg).hi, .bool (pg).la, .int .u64 (pg).ri] 31) :: rowC (.slice (some ⟨g, 0, none⟩) pg.sl.length cap) 70 2 pg.sl.length (slRow pg.sl) :: F))
  case first =>
    as_aux_lemma =>
    by_cases hlv : pg.lev = 0
    · have hlv2 : (pg.lev == 0) = true := by rw [hlv]; rfl
      have kp := hs.k2
      have c0 := (show St K _ (rowC _ 70 2 pg.sl.length (slRow pg.sl) :: F) from hs.tail.tail.tail).row_cell (slRow_at _ _ _ Hx.out).1
      have Hf : Hid (splSep pg = sepK x.k y.k) := Lib.hid (by rw [Hsep.out, if_pos hlv])
      have Qs := Lib.hid (fun w => refSep_any x.k y.k (hsz y (List.mem_of_getElem? Hy.out)) w)
      clear hlv
      rw [hlv2]
      clear hlv2
      go_wp2_with fail
      refine (Qs.out _).mono ?_
      rintro e w3 ⟨rfl, rfl⟩
      clear kp c0
      go_wp2
      go_meet
      exact ⟨by rw [Hf.out], hs⟩
    · have hlv2 : (pg.lev == 0) = false := by simp [hlv]
      have Hf : Hid (splSep pg = y.k) := Lib.hid (by rw [Hsep.out, if_neg hlv])
      clear hlv
      rw [hlv2]
      clear hlv2
      go_wp2
      go_meet
      exact ⟨by rw [Hf.out], hs⟩
  case rest =>
  clear hs
  obtain ⟨rfl, hs⟩ := hcut
  obtain ⟨sep, hsep⟩ : ∃ sep, sep = splSep pg := ⟨_, rfl⟩
  rw [← hsep]
  have Hsp := Lib.hid hsep
  clear hsep Hsep
  go_upto_region 8 with (fail)
  have Hs := Lib.hid hs
  clear hs
  refine region_two [false, false, false, false, false, false, false, false, false, false, true, true] 10 11
    (fun W => St K W (blk (bp + 2) (.cells #[.int .i64 0, .slice none 0 0, .string ⟨#[]⟩, .bool false, .int .u64 0] 31) :: blk (bp + 1) (.cells #[.int .i64 0, .slice none 0 0, .string ⟨#[]⟩, .bool false, .int .u64 0] 31) :: blk bp (.cells #[.int .i64 (pg).lev, (.slice (some ⟨g, 0, none⟩) pg.sl.length cap), .string (pg).hi, .bool (pg).la, .int .u64 (pg).ri] 31) :: rowC (.slice (some ⟨g, 0, none⟩) pg.sl.length cap) 70 2 pg.sl.length (slRow pg.sl) :: F))
    (fun v W => ∃ b : Nat, v = (.pointer (some ⟨b, 0, none⟩)) ∧ St K W (blk b (.cells #[.int .i64 0, .slice none 0 0, .string ⟨#[]⟩, .bool false, .int .u64 0] 31) :: blk (bp + 2) (.cells #[.int .i64 0, .slice none 0 0, .string ⟨#[]⟩, .bool false, .int .u64 0] 31) :: blk (bp + 1) (.cells #[.int .i64 0, .slice none 0 0, .string ⟨#[]⟩, .bool false, .int .u64 0] 31) :: blk bp (.cells #[.int .i64 (pg).lev, (.slice (some ⟨g, 0, none⟩) pg.sl.length cap), .string (pg).hi, .bool (pg).la, .int .u64 (pg).ri] 31) :: rowC (.slice (some ⟨g, 0, none⟩) pg.sl.length cap) 70 2 pg.sl.length (slRow pg.sl) :: F))
    (fun v u W => u = undef ∧ ∃ b : Nat, v = (.pointer (some ⟨b, 0, none⟩)) ∧ St K W (blk b (.cells #[.int .i64 pg.lev, .slice (some ⟨g, 0, none⟩) k k, .string sep, .bool false, .int .u64 r] 31) :: blk (bp + 2) (.cells #[.int .i64 0, .slice none 0 0, .string ⟨#[]⟩, .bool false, .int .u64 0] 31) :: blk (bp + 1) (.cells #[.int .i64 0, .slice none 0 0, .string ⟨#[]⟩, .bool false, .int .u64 0] 31) :: blk bp (.cells #[.int .i64 (pg).lev, (.slice (some ⟨g, 0, none⟩) pg.sl.length cap), .string (pg).hi, .bool (pg).la, .int .u64 (pg).ri] 31) :: rowC (.slice (some ⟨g, 0, none⟩) pg.sl.length cap) 70 2 pg.sl.length (slRow pg.sl) :: F))
    (fun W => ∃ c1 c2 cs, St K W (c1 :: c2 :: blk bp (.cells #[.int .i64 (pg).lev, (.slice (some ⟨g, 0, none⟩) pg.sl.length cap), .string (pg).hi, .bool (pg).la, .int .u64 (pg).ri] 31) :: cs)) ?aSt (by decide) (by kernel_rfl) ?hBt ?Ht ?haSt Hs.out ?hIt ?hRt ?hE1t ?hE2t ?hQt
  case hBt => as_aux_lemma => kernel_rfl
  case Ht =>
    rintro W2 ⟨x1, x2, cs, hs⟩
    have kp := hs.k2
    clear hs
    simp only [withM]
    repeat (go_big_quiet_step (fail))
    refine wpQuiet_nil ?_
    rfl
  case haSt => rfl
  case hIt => exact ⟨fun W h => ⟨_, _, _, h⟩, fun v W ⟨_, _, h⟩ => ⟨_, _, _, h.tail⟩, fun v u W ⟨_, _, _, h⟩ => ⟨_, _, _, h.tail⟩⟩
  case hRt => exact ⟨fun W W' h hb => h.same hb, fun v W W' ⟨b, e, h⟩ hb => ⟨b, e, h.same hb⟩, fun v u W W' ⟨e0, b, e, h⟩ hb => ⟨e0, b, e, h.same hb⟩⟩
  case hE1t =>
    intro R2' o ho ρ W2 hs hk af haf
    obtain rfl := Option.some.inj ho
    subst haf
    have Hk2 := Lib.hid hk
    clear hk
    have hs := hs.made (.cells #[.int .i64 0, .slice none 0 0, .string ⟨#[]⟩, .bool false, .int .u64 0] 31)
    go_wp2
    exact ⟨rfl, _, rfl, Hk2.out _ _ ⟨_, rfl, hs⟩⟩
  case hE2t =>
    rintro R2' o ho ρ v W2 ⟨b, rfl, hs⟩ hk af haf
    obtain rfl := Option.some.inj ho
    have Hk2 := Lib.hid hk
    clear hk
    simp only [dstAt, List.getElem?_cons_succ, List.getElem?_cons_zero, Option.bind_some, Act.put, List.setIfInBounds_toArray, List.set_cons_zero, List.set_cons_succ] at haf
    subst haf
    have k0 := hs.k0
    have f0 := hs.f0
    have Hs3 : Hid (St K _ (blk b (.cells #[.int .i64 pg.lev, .slice (some ⟨g, 0, none⟩) k k, .string sep, .bool false, .int .u64 r] 31) :: _)) := Lib.hid (((((hs.setL 0 (.int .i64 pg.lev)).setL 1 (.slice (some ⟨g, 0, none⟩) k k)).setL 2 (.string sep)).setL 3 (.bool false)).setL 4 (.int .u64 r))
    clear hs
    go_wp2
    exact ⟨rfl, undef, rfl, Hk2.out _ _ ⟨rfl, b, rfl, Hs3.out⟩⟩
  case hQt =>
  rintro v u W2 ⟨rfl, b2, rfl, hs⟩
  simp only [dstAt, List.getElem?_cons_succ, List.getElem?_cons_zero, Option.bind_some, Act.put, List.setIfInBounds_toArray, List.set_cons_zero, List.set_cons_succ]
  clear Hs
  have kp := hs.tail.k2
  have hs1 := hs.made (.cells #[.int .i64 (pg).lev, (.slice (some ⟨g, 0, none⟩) pg.sl.length cap), .string (pg).hi, .bool (pg).la, .int .u64 (pg).ri] 31)
  obtain ⟨b3, hb3⟩ : ∃ b3, b3 = W2.heap.size := ⟨_, rfl⟩
  have fb := hs1.f0
  have kb := hs1.k0
  have kp2 := hs1.tail.tail.k2
  have hs := hs.made (.cells #[.int .i64 pg.lev, .slice (some ⟨g, k * 2, none⟩) (pg.sl.length - k) (cap - k), .string pg.hi, .bool pg.la, .int .u64 pg.ri] 31)
  clear hs1
  go_upto_region 11 with (fail)
  rw [← hb3] at hs ⊢
  clear kb fb kp kp2 hb3
  have Hs := Lib.hid (hs.re [3, 2, 0, 1, 4, 5] rfl)
  clear hs
  refine region_effects [false, false, false, true, true, false, false] [3, 4] (fun _ => [])
    (SqR K (bp + 1) (bp + 2) #[.int .i64 pg.lev, .slice (some ⟨g, 0, none⟩) k k, .string sep, .bool false, .int .u64 r] #[.int .i64 pg.lev, .slice (some ⟨g, k * 2, none⟩) (pg.sl.length - k) (cap - k), .string pg.hi, .bool pg.la, .int .u64 pg.ri] (blk b3 (.cells #[.int .i64 pg.lev, .slice (some ⟨g, k * 2, none⟩) (pg.sl.length - k) (cap - k), .string pg.hi, .bool pg.la, .int .u64 pg.ri] 31) :: blk b2 (.cells #[.int .i64 pg.lev, .slice (some ⟨g, 0, none⟩) k k, .string sep, .bool false, .int .u64 r] 31) :: blk bp (.cells #[.int .i64 (pg).lev, (.slice (some ⟨g, 0, none⟩) pg.sl.length cap), .string (pg).hi, .bool (pg).la, .int .u64 (pg).ri] 31) :: rowC (.slice (some ⟨g, 0, none⟩) pg.sl.length cap) 70 2 pg.sl.length (slRow pg.sl) :: F))
    (fun W => St K W (blk b3 (.cells #[.int .i64 pg.lev, .slice (some ⟨g, k * 2, none⟩) (pg.sl.length - k) (cap - k), .string pg.hi, .bool pg.la, .int .u64 pg.ri] 31) :: blk b2 (.cells #[.int .i64 pg.lev, .slice (some ⟨g, 0, none⟩) k k, .string sep, .bool false, .int .u64 r] 31) :: blk bp (.cells #[.int .i64 (pg).lev, (.slice (some ⟨g, 0, none⟩) pg.sl.length cap), .string (pg).hi, .bool (pg).la, .int .u64 (pg).ri] 31) :: rowC (.slice (some ⟨g, 0, none⟩) pg.sl.length cap) 70 2 pg.sl.length (slRow pg.sl) :: F)) ?aSf (by kernel_rfl) ?hBf ?Hf ?haSf ?h0f ?hIf ?hRf ?hEf ?hQf
  case hBf => as_aux_lemma => kernel_rfl
  case Hf =>
    intro W2 hs
    have c3 := hs.k0
    have c2' := hs.k1
    clear hs
    simp only [withM]
    repeat (go_big_quiet_step (fail))
    refine wpQuiet_nil ?_
    rfl
  case haSf => rfl
  case h0f => exact Hs.out
  case hIf => exact fun ρ W2 h => St.tail (St.tail h)
  case hRf => exact fun ρ W2 W3 h hb => St.same h hb
  case hEf =>
    refine ⟨?e3f, ?e4f, trivial⟩
    case e3f =>
      intro o ho ρ W2 h hcl h3' hd2 af haf
      obtain rfl := Option.some.inj ho
      replace haf : af = fillD _ ρ [] _ := haf
      simp only [fillD] at haf
      subst haf
      unfold SqR at h
      rw [h3'] at h
      obtain ⟨yy, hyy⟩ : ∃ yy : Array Value, yy = (if (ρ 4).isSome = true then #[.int .i64 pg.lev, .slice (some ⟨g, k * 2, none⟩) (pg.sl.length - k) (cap - k), .string pg.hi, .bool pg.la, .int .u64 pg.ri] else #[.int .i64 0, .slice none 0 0, .string ⟨#[]⟩, .bool false, .int .u64 0]) := ⟨_, rfl⟩
      rw [← hyy] at h
      have HY := Lib.hid hyy
      clear hyy
      have hs : St K W2 (blk (bp + 1) (.cells #[.int .i64 0, .slice none 0 0, .string ⟨#[]⟩, .bool false, .int .u64 0] 31) :: blk (bp + 2) (.cells yy 31) :: blk b3 (.cells #[.int .i64 pg.lev, .slice (some ⟨g, k * 2, none⟩) (pg.sl.length - k) (cap - k), .string pg.hi, .bool pg.la, .int .u64 pg.ri] 31) :: blk b2 (.cells #[.int .i64 pg.lev, .slice (some ⟨g, 0, none⟩) k k, .string sep, .bool false, .int .u64 r] 31) :: blk bp (.cells #[.int .i64 (pg).lev, (.slice (some ⟨g, 0, none⟩) pg.sl.length cap), .string (pg).hi, .bool (pg).la, .int .u64 (pg).ri] 31) :: rowC (.slice (some ⟨g, 0, none⟩) pg.sl.length cap) 70 2 pg.sl.length (slRow pg.sl) :: F) := h
      have k0 := hs.k0
      have f0 := hs.f0
      have hs := ((((hs.setL 0 (.int .i64 pg.lev)).setL 1 (.slice (some ⟨g, 0, none⟩) k k)).setL 2 (.string sep)).setL 3 (.bool false)).setL 4 (.int .u64 r)
      have Hs3 := Lib.hid hs
      clear h hs hcl hd2
      go_wp2
      refine ⟨rfl, undef, rfl, ?_⟩
      unfold SqR
      rw [show upd ρ 3 undef 3 = some undef by simp [upd], show upd ρ 3 undef 4 = ρ 4 by simp [upd], ← HY.out]
      exact Hs3.out
    case e4f =>
      intro o ho ρ W2 h hcl h4 hd2 af haf
      obtain rfl := Option.some.inj ho
      replace haf : af = fillD _ ρ [] _ := haf
      simp only [fillD] at haf
      subst haf
      unfold SqR at h
      rw [h4] at h
      obtain ⟨yy, hyy⟩ : ∃ yy : Array Value, yy = (if (ρ 3).isSome = true then #[.int .i64 pg.lev, .slice (some ⟨g, 0, none⟩) k k, .string sep, .bool false, .int .u64 r] else #[.int .i64 0, .slice none 0 0, .string ⟨#[]⟩, .bool false, .int .u64 0]) := ⟨_, rfl⟩
      rw [← hyy] at h
      have HY := Lib.hid hyy
      clear hyy
      have hs : St K W2 (blk (bp + 2) (.cells #[.int .i64 0, .slice none 0 0, .string ⟨#[]⟩, .bool false, .int .u64 0] 31) :: blk (bp + 1) (.cells yy 31) :: blk b3 (.cells #[.int .i64 pg.lev, .slice (some ⟨g, k * 2, none⟩) (pg.sl.length - k) (cap - k), .string pg.hi, .bool pg.la, .int .u64 pg.ri] 31) :: blk b2 (.cells #[.int .i64 pg.lev, .slice (some ⟨g, 0, none⟩) k k, .string sep, .bool false, .int .u64 r] 31) :: blk bp (.cells #[.int .i64 (pg).lev, (.slice (some ⟨g, 0, none⟩) pg.sl.length cap), .string (pg).hi, .bool (pg).la, .int .u64 (pg).ri] 31) :: rowC (.slice (some ⟨g, 0, none⟩) pg.sl.length cap) 70 2 pg.sl.length (slRow pg.sl) :: F) := h.re [1, 0] rfl
      have k0 := hs.k0
      have f0 := hs.f0
      have hs := ((((hs.setL 0 (.int .i64 pg.lev)).setL 1 (.slice (some ⟨g, k * 2, none⟩) (pg.sl.length - k) (cap - k))).setL 2 (.string pg.hi)).setL 3 (.bool pg.la)).setL 4 (.int .u64 pg.ri)
      have Hs3 := Lib.hid (hs.re [1, 0] rfl)
      clear h hs hcl hd2
      go_wp2
      refine ⟨rfl, undef, rfl, ?_⟩
      unfold SqR
      rw [show upd ρ 4 undef 4 = some undef by simp [upd], show upd ρ 4 undef 3 = ρ 3 by simp [upd], ← HY.out]
      exact Hs3.out
  case hQf =>
    intro ρ W2 h hall
    obtain ⟨v3, h3'⟩ := Option.isSome_iff_exists.1 (hall 3 (by simp))
    obtain ⟨v4, h4⟩ := Option.isSome_iff_exists.1 (hall 4 (by simp))
    unfold SqR at h
    rw [h3', h4] at h
    have hs : St K W2 (blk (bp + 1) (.cells #[.int .i64 pg.lev, .slice (some ⟨g, 0, none⟩) k k, .string sep, .bool false, .int .u64 r] 31) :: blk (bp + 2) (.cells #[.int .i64 pg.lev, .slice (some ⟨g, k * 2, none⟩) (pg.sl.length - k) (cap - k), .string pg.hi, .bool pg.la, .int .u64 pg.ri] 31) :: blk b3 (.cells #[.int .i64 pg.lev, .slice (some ⟨g, k * 2, none⟩) (pg.sl.length - k) (cap - k), .string pg.hi, .bool pg.la, .int .u64 pg.ri] 31) :: blk b2 (.cells #[.int .i64 pg.lev, .slice (some ⟨g, 0, none⟩) k k, .string sep, .bool false, .int .u64 r] 31) :: blk bp (.cells #[.int .i64 (pg).lev, (.slice (some ⟨g, 0, none⟩) pg.sl.length cap), .string (pg).hi, .bool (pg).la, .int .u64 (pg).ri] 31) :: rowC (.slice (some ⟨g, 0, none⟩) pg.sl.length cap) 70 2 pg.sl.length (slRow pg.sl) :: F) := h
    simp only [fillD, h3', h4, Option.getD_some, dstAt, List.getElem?_cons_succ, List.getElem?_cons_zero, Option.bind_some, Option.bind_none, Act.put]
    clear h hall h3' h4
    have q1 := hs.k0
    have q2 := hs.k1
    have eL : (splL pg r).sl.length = k := by
      show (pg.sl.take (splK pg.sl.length)).length = k
      rw [← Hk.out, List.length_take]; omega
    have eR : (splR pg).sl.length = pg.sl.length - k := by
      show (pg.sl.drop (splK pg.sl.length)).length = _
      rw [← Hk.out, List.length_drop]
    have eL2 : (splL pg r).sl = pg.sl.take k := by show pg.sl.take (splK pg.sl.length) = _; rw [← Hk.out]
    have eR2 : (splR pg).sl = pg.sl.drop k := by show pg.sl.drop (splK pg.sl.length) = _; rw [← Hk.out]
    have EL := Lib.hid (And.intro eL eL2)
    have ER := Lib.hid (And.intro eR eR2)
    clear eL eR eL2 eR2
    go_wp2
    refine bodyPost_ret (refSplit_res _ _ (bp + 1) (bp + 2) _ _ _ _ _ _ _ _ _ _ _ _ rfl rfl rfl rfl q1 q2) rfl ?_
    refine ⟨?_, ?_⟩
    · rw [EL.out.1, ER.out.1, Hsp.out]; rfl
    · exact (hs.re [0, 1, 2, 3, 4, 5] rfl).tail.tail.tail.tail.tail
end
end Go.Proofs.Ytlpdhhhgckpcfaa
