
/- The reference's Insert and Split. -/
import Derived.Test.YtlpdhhhgckpcfaaGreatPageOps
import Derived.Test.YtlpdhhhgckpcfaaGreatRefFind
import Derived.Test.YtlpdhhhgckpcfaaGreatCallVar
namespace Go.Proofs.YtlpdhhhgckpcfaaGreat
open Go.RowKit
set_option maxRecDepth 100000
section
variable {K : Know} {w : World} {F : List Comp} {pg : Pg} {a : Option Addr} {cap : Nat} {key : ByteArray} {r : Int}
theorem refSplit_res (tmps : Array Value) (w : World) (b1 b2 : Nat) (v0 v1 v2 v3 v4 u0 u1 u2 u3 u4 x y : Value) (hp : tmps[4]? = some (.pointer (some ⟨b1, 0, none⟩))) (hq : tmps[5]? = some (.pointer (some ⟨b2, 0, none⟩))) (hx : tmps[6]? = some x) (hy : tmps[7]? = some y)
    (hk : ∀ k, w.cell? ⟨b1, k, none⟩ = (#[v0, v1, v2, v3, v4] : Array Value)[k]?) (hl : ∀ k, w.cell? ⟨b2, k, none⟩ = (#[u0, u1, u2, u3, u4] : Array Value)[k]?) :
    (results Tryz.f37 tmps).run Tryz.prog w = .ok (.tuple #[.agg #[v0, v1, v2, v3, v4], .agg #[u0, u1, u2, u3, u4], x, y]) w := by
  simp [results, Tryz.results37, go_sem, hp, hq, hx, hy, hk, hl]
set_option maxHeartbeats 4000000 in
/-- The reference's Split: the halves lie where the page lay. -/
theorem refSplit_st {g : Nat} (hc : pg.sl.length ≤ cap) (h2 : 2 ≤ pg.sl.length) (h100 : pg.sl.length ≤ 100) (hsz : ∀ s, s ∈ pg.sl → s.k.size ≤ 1000000) (hs : St K w (slC (.slice (some ⟨g, 0, none⟩) pg.sl.length cap) pg :: F)) :
    Calls Tryz.prog 37 #[(.agg #[.int .i64 (pg).lev, (.slice (some ⟨g, 0, none⟩) pg.sl.length cap), .string (pg).hi, .bool (pg).la, .int .u64 (pg).ri]), .int .u64 r] w fun e w' => e = .returned (.tuple #[(.agg #[.int .i64 ((splL pg r)).lev, (.slice (some ⟨g, 0, none⟩) (splL pg r).sl.length (splL pg r).sl.length), .string ((splL pg r)).hi, .bool ((splL pg r)).la, .int .u64 ((splL pg r)).ri]), (.agg #[.int .i64 ((splR pg)).lev, (.slice (some ⟨g, (splL pg r).sl.length * 2, none⟩) (splR pg).sl.length (cap - (splL pg r).sl.length)), .string ((splR pg)).hi, .bool ((splR pg)).la, .int .u64 ((splR pg)).ri]), .string (splSep pg), .bool true]) ∧
      St K w' (slC (.slice (some ⟨g, 0, none⟩) pg.sl.length cap) pg :: F) := by
  obtain ⟨k, hk⟩ : ∃ k, k = splK pg.sl.length := ⟨_, rfl⟩
  have hk1 : 1 ≤ k ∧ k < pg.sl.length := by rw [hk]; unfold splK; omega
  obtain ⟨x, hx⟩ : ∃ x, pg.sl[k - 1]? = some x := ⟨_, List.getElem?_eq_getElem (by omega)⟩
  obtain ⟨y, hy⟩ : ∃ y, pg.sl[k]? = some y := ⟨_, List.getElem?_eq_getElem hk1.2⟩
  have hsep : splSep pg = if pg.lev = 0 then sepK x.k y.k else y.k := by unfold splSep; rw [← hk, hx, hy]
  have hki : (pg.sl.length : Int) - (pg.sl.length : Int) / 2 = (k : Int) := by rw [hk]; unfold splK; omega
  have Hki := Lib.hid hki
  clear hki
  have Hy := Lib.hid hy
  have Hx := Lib.hid hx
  have Hsep := Lib.hid hsep
  have Hk := Lib.hid hk
  have hs := ((hs.made (.cells #[.int .i64 (pg).lev, (.slice (some ⟨g, 0, none⟩) pg.sl.length cap), .string (pg).hi, .bool (pg).la, .int .u64 (pg).ri] 43)).made (.cells #[.int .i64 0, .slice none 0 0, .string ⟨#[]⟩, .bool false, .int .u64 0] 43)).made (.cells #[.int .i64 0, .slice none 0 0, .string ⟨#[]⟩, .bool false, .int .u64 0] 43)
  simp only [World.size_alloc] at hs
  clear hx hy hsep hk
  obtain ⟨bp, hbp⟩ : ∃ bp, bp = w.heap.size := ⟨_, rfl⟩
  rw [show w.heap.size + 1 + 1 = w.heap.size + 2 by omega, ← hbp] at hs
  have hs : St K _ (blk (bp + 2) (.cells #[.int .i64 0, .slice none 0 0, .string ⟨#[]⟩, .bool false, .int .u64 0] 43) :: blk (bp + 1) (.cells #[.int .i64 0, .slice none 0 0, .string ⟨#[]⟩, .bool false, .int .u64 0] 43) :: blk bp (.cells #[.int .i64 (pg).lev, (.slice (some ⟨g, 0, none⟩) pg.sl.length cap), .string (pg).hi, .bool (pg).la, .int .u64 (pg).ri] 43) :: rowC (.slice (some ⟨g, 0, none⟩) pg.sl.length cap) 69 2 pg.sl.length (slRow pg.sl) :: F) := hs
  go_enter Tryz.func37, Tryz.ntmps37
  go_upto_region 4 with (fail)
  rw [show w.heap.size + 1 + 1 = w.heap.size + 2 by omega, ← hbp]
  clear hbp
  go_cut [9] (fun v wx => v = .int .i64 k ∧ St K wx (blk (bp + 2) (.cells #[.int .i64 0, .slice none 0 0, .string ⟨#[]⟩, .bool false, .int .u64 0] 43) :: blk (bp + 1) (.cells #[.int .i64 0, .slice none 0 0, .string ⟨#[]⟩, .bool false, .int .u64 0] 43) :: blk bp (.cells #[.int .i64 (pg).lev, (.slice (some ⟨g, 0, none⟩) pg.sl.length cap), .string (pg).hi, .bool (pg).la, .int .u64 (pg).ri] 43) :: rowC (.slice (some ⟨g, 0, none⟩) pg.sl.length cap) 69 2 pg.sl.length (slRow pg.sl) :: F))
  case first =>
    as_aux_lemma =>
    go_wp2
    go_meet
    exact ⟨by rw [Hki.out], hs⟩
  case rest =>
  clear hs
  obtain ⟨rfl, hs⟩ := hcut
  have kp := hs.k2
  have c1 := (show St K wc (rowC _ 69 2 pg.sl.length (slRow pg.sl) :: F) from hs.tail.tail.tail).row_cell (slRow_at _ _ _ Hy.out).1
  have c0 := (show St K wc (rowC _ 69 2 pg.sl.length (slRow pg.sl) :: F) from hs.tail.tail.tail).row_cell (slRow_at _ _ _ Hx.out).1
  go_upto_region 6 with (fail)
  clear c1
  go_cut [32] (fun v wx => v = .bool (pg.lev == 0) ∧ St K wx (blk (bp + 2) (.cells #[.int .i64 0, .slice none 0 0, .string ⟨#[]⟩, .bool false, .int .u64 0] 43) :: blk (bp + 1) (.cells #[.int .i64 0, .slice none 0 0, .string ⟨#[]⟩, .bool false, .int .u64 0] 43) :: blk bp (.cells #[.int .i64 (pg).lev, (.slice (some ⟨g, 0, none⟩) pg.sl.length cap), .string (pg).hi, .bool (pg).la, .int .u64 (pg).ri] 43) :: rowC (.slice (some ⟨g, 0, none⟩) pg.sl.length cap) 69 2 pg.sl.length (slRow pg.sl) :: F))
  case first =>
    as_aux_lemma =>
    clear c0
    go_wp2
    go_meet
    exact ⟨rfl, hs⟩
  case rest =>
  clear hs kp c0
  obtain ⟨rfl, hs⟩ := hcut
  apply_assumption
  go_cut [10] (fun v wx => v = .string (splSep pg) ∧ St K wx (blk (bp + 2) (.cells #[.int .i64 0, .slice none 0 0, .string ⟨#[]⟩, .bool false, .int .u64 0] 43) :: blk (bp + 1) (.cells #[.int .i64 0, .slice none 0 0, .string ⟨#[]⟩, .bool false, .int .u64 0] 43) :: blk bp (.cells #[.int .i64 (pg).lev, (.slice (some ⟨g, 0, none⟩) pg.sl.length cap), .string (pg).hi, .bool (pg).la, .int .u64 (pg).ri] 43) :: rowC (.slice (some ⟨g, 0, none⟩) pg.sl.length cap) 69 2 pg.sl.length (slRow pg.sl) :: F))
  case first =>
    as_aux_lemma =>
    by_cases hlv : pg.lev = 0
    · have hlv2 : (pg.lev == 0) = true := by rw [hlv]; rfl
      have kp := hs.k2
      have c0 := (show St K _ (rowC _ 69 2 pg.sl.length (slRow pg.sl) :: F) from hs.tail.tail.tail).row_cell (slRow_at _ _ _ Hx.out).1
      have Hf : Hid (splSep pg = sepK x.k y.k) := Lib.hid (by rw [Hsep.out, if_pos hlv])
      have Qs := Lib.hid (fun w => refSep_any x.k y.k (hsz y (List.mem_of_getElem? Hy.out)) w)
      clear hlv
      rw [hlv2]
      clear hlv2
      go_wp2_with fail
      refine (Qs.out _).mono ?_
      rintro e w3 ⟨rfl, rfl⟩
      clear kp c0
      go_wp2
      go_meet
      exact ⟨by rw [Hf.out], hs⟩
    · have hlv2 : (pg.lev == 0) = false := by simp [hlv]
      have Hf : Hid (splSep pg = y.k) := Lib.hid (by rw [Hsep.out, if_neg hlv])
      clear hlv
      rw [hlv2]
      clear hlv2
      go_wp2
      go_meet
      exact ⟨by rw [Hf.out], hs⟩
  case rest =>
  clear hs
  obtain ⟨rfl, hs⟩ := hcut
  obtain ⟨sep, hsep⟩ : ∃ sep, sep = splSep pg := ⟨_, rfl⟩
  rw [← hsep]
  have Hsp := Lib.hid hsep
  clear hsep Hsep
  go_upto_region 8 with (fail)
  have Hs := Lib.hid hs
  clear hs
  refine region_two [false, false, false, false, false, false, false, false, false, false, true, true] 10 11
    (fun W => St K W (blk (bp + 2) (.cells #[.int .i64 0, .slice none 0 0, .string ⟨#[]⟩, .bool false, .int .u64 0] 43) :: blk (bp + 1) (.cells #[.int .i64 0, .slice none 0 0, .string ⟨#[]⟩, .bool false, .int .u64 0] 43) :: blk bp (.cells #[.int .i64 (pg).lev, (.slice (some ⟨g, 0, none⟩) pg.sl.length cap), .string (pg).hi, .bool (pg).la, .int .u64 (pg).ri] 43) :: rowC (.slice (some ⟨g, 0, none⟩) pg.sl.length cap) 69 2 pg.sl.length (slRow pg.sl) :: F))
    (fun v W => ∃ b : Nat, v = (.pointer (some ⟨b, 0, none⟩)) ∧ St K W (blk b (.cells #[.int .i64 0, .slice none 0 0, .string ⟨#[]⟩, .bool false, .int .u64 0] 43) :: blk (bp + 2) (.cells #[.int .i64 0, .slice none 0 0, .string ⟨#[]⟩, .bool false, .int .u64 0] 43) :: blk (bp + 1) (.cells #[.int .i64 0, .slice none 0 0, .string ⟨#[]⟩, .bool false, .int .u64 0] 43) :: blk bp (.cells #[.int .i64 (pg).lev, (.slice (some ⟨g, 0, none⟩) pg.sl.length cap), .string (pg).hi, .bool (pg).la, .int .u64 (pg).ri] 43) :: rowC (.slice (some ⟨g, 0, none⟩) pg.sl.length cap) 69 2 pg.sl.length (slRow pg.sl) :: F))
    (fun v u W => u = undef ∧ ∃ b : Nat, v = (.pointer (some ⟨b, 0, none⟩)) ∧ St K W (blk b (.cells #[.int .i64 pg.lev, .slice (some ⟨g, 0, none⟩) k k, .string sep, .bool false, .int .u64 r] 43) :: blk (bp + 2) (.cells #[.int .i64 0, .slice none 0 0, .string ⟨#[]⟩, .bool false, .int .u64 0] 43) :: blk (bp + 1) (.cells #[.int .i64 0, .slice none 0 0, .string ⟨#[]⟩, .bool false, .int .u64 0] 43) :: blk bp (.cells #[.int .i64 (pg).lev, (.slice (some ⟨g, 0, none⟩) pg.sl.length cap), .string (pg).hi, .bool (pg).la, .int .u64 (pg).ri] 43) :: rowC (.slice (some ⟨g, 0, none⟩) pg.sl.length cap) 69 2 pg.sl.length (slRow pg.sl) :: F))
    (fun W => ∃ c1 c2 cs, St K W (c1 :: c2 :: blk bp (.cells #[.int .i64 (pg).lev, (.slice (some ⟨g, 0, none⟩) pg.sl.length cap), .string (pg).hi, .bool (pg).la, .int .u64 (pg).ri] 43) :: cs)) ?aSt (by decide) (by kernel_rfl) ?hBt ?Ht ?haSt Hs.out ?hIt ?hRt ?hE1t ?hE2t ?hQt
  case hBt => as_aux_lemma => kernel_rfl
  case Ht =>
    rintro W2 ⟨x1, x2, cs, hs⟩
    have kp := hs.k2
    clear hs
    simp only [withM]
    repeat (go_big_quiet_step (fail))
    refine wpQuiet_nil ?_
    rfl
  case haSt => rfl
  case hIt => exact ⟨fun W h => ⟨_, _, _, h⟩, fun v W ⟨_, _, h⟩ => ⟨_, _, _, h.tail⟩, fun v u W ⟨_, _, _, h⟩ => ⟨_, _, _, h.tail⟩⟩
  case hRt => exact ⟨fun W W' h hb => h.same hb, fun v W W' ⟨b, e, h⟩ hb => ⟨b, e, h.same hb⟩, fun v u W W' ⟨e0, b, e, h⟩ hb => ⟨e0, b, e, h.same hb⟩⟩
  case hE1t =>
    intro R2' o ho ρ W2 hs hk af haf
    obtain rfl := Option.some.inj ho
    subst haf
    have Hk2 := Lib.hid hk
    clear hk
    have hs := hs.made (.cells #[.int .i64 0, .slice none 0 0, .string ⟨#[]⟩, .bool false, .int .u64 0] 43)
    go_wp2
    exact ⟨rfl, _, rfl, Hk2.out _ _ ⟨_, rfl, hs⟩⟩
  case hE2t =>
    rintro R2' o ho ρ v W2 ⟨b, rfl, hs⟩ hk af haf
    obtain rfl := Option.some.inj ho
    have Hk2 := Lib.hid hk
    clear hk
    simp only [dstAt, List.getElem?_cons_succ, List.getElem?_cons_zero, Option.bind_some, Act.put, List.setIfInBounds_toArray, List.set_cons_zero, List.set_cons_succ] at haf
    subst haf
    have k0 := hs.k0
    have f0 := hs.f0
    have Hs3 : Hid (St K _ (blk b (.cells #[.int .i64 pg.lev, .slice (some ⟨g, 0, none⟩) k k, .string sep, .bool false, .int .u64 r] 43) :: _)) := Lib.hid (((((hs.setL 0 (.int .i64 pg.lev)).setL 1 (.slice (some ⟨g, 0, none⟩) k k)).setL 2 (.string sep)).setL 3 (.bool false)).setL 4 (.int .u64 r))
    clear hs
    go_wp2
    exact ⟨rfl, undef, rfl, Hk2.out _ _ ⟨rfl, b, rfl, Hs3.out⟩⟩
  case hQt =>
  rintro v u W2 ⟨rfl, b2, rfl, hs⟩
  simp only [dstAt, List.getElem?_cons_succ, List.getElem?_cons_zero, Option.bind_some, Act.put, List.setIfInBounds_toArray, List.set_cons_zero, List.set_cons_succ]
  clear Hs
  have kp := hs.tail.k2
  have hs1 := hs.made (.cells #[.int .i64 (pg).lev, (.slice (some ⟨g, 0, none⟩) pg.sl.length cap), .string (pg).hi, .bool (pg).la, .int .u64 (pg).ri] 43)
  obtain ⟨b3, hb3⟩ : ∃ b3, b3 = W2.heap.size := ⟨_, rfl⟩
  have fb := hs1.f0
  have kb := hs1.k0
  have kp2 := hs1.tail.tail.k2
  have hs := hs.made (.cells #[.int .i64 pg.lev, .slice (some ⟨g, k * 2, none⟩) (pg.sl.length - k) (cap - k), .string pg.hi, .bool pg.la, .int .u64 pg.ri] 43)
  clear hs1
  go_upto_region 11 with (fail)
  rw [← hb3] at hs ⊢
  clear kb fb kp kp2 hb3
  have Hs := Lib.hid (hs.re [3, 2, 0, 1, 4, 5] rfl)
  clear hs
  refine region_effects [false, false, false, true, true, false, false] [3, 4] (fun _ => [])
    (SqR K (bp + 1) (bp + 2) #[.int .i64 pg.lev, .slice (some ⟨g, 0, none⟩) k k, .string sep, .bool false, .int .u64 r] #[.int .i64 pg.lev, .slice (some ⟨g, k * 2, none⟩) (pg.sl.length - k) (cap - k), .string pg.hi, .bool pg.la, .int .u64 pg.ri] (blk b3 (.cells #[.int .i64 pg.lev, .slice (some ⟨g, k * 2, none⟩) (pg.sl.length - k) (cap - k), .string pg.hi, .bool pg.la, .int .u64 pg.ri] 43) :: blk b2 (.cells #[.int .i64 pg.lev, .slice (some ⟨g, 0, none⟩) k k, .string sep, .bool false, .int .u64 r] 43) :: blk bp (.cells #[.int .i64 (pg).lev, (.slice (some ⟨g, 0, none⟩) pg.sl.length cap), .string (pg).hi, .bool (pg).la, .int .u64 (pg).ri] 43) :: rowC (.slice (some ⟨g, 0, none⟩) pg.sl.length cap) 69 2 pg.sl.length (slRow pg.sl) :: F))
    (fun W => St K W (blk b3 (.cells #[.int .i64 pg.lev, .slice (some ⟨g, k * 2, none⟩) (pg.sl.length - k) (cap - k), .string pg.hi, .bool pg.la, .int .u64 pg.ri] 43) :: blk b2 (.cells #[.int .i64 pg.lev, .slice (some ⟨g, 0, none⟩) k k, .string sep, .bool false, .int .u64 r] 43) :: blk bp (.cells #[.int .i64 (pg).lev, (.slice (some ⟨g, 0, none⟩) pg.sl.length cap), .string (pg).hi, .bool (pg).la, .int .u64 (pg).ri] 43) :: rowC (.slice (some ⟨g, 0, none⟩) pg.sl.length cap) 69 2 pg.sl.length (slRow pg.sl) :: F)) ?aSf (by kernel_rfl) ?hBf ?Hf ?haSf ?h0f ?hIf ?hRf ?hEf ?hQf
  case hBf => as_aux_lemma => kernel_rfl
  case Hf =>
    intro W2 hs
    have c3 := hs.k0
    have c2' := hs.k1
    clear hs
    simp only [withM]
    repeat (go_big_quiet_step (fail))
    refine wpQuiet_nil ?_
    rfl
  case haSf => rfl
  case h0f => exact Hs.out
  case hIf => exact fun ρ W2 h => St.tail (St.tail h)
  case hRf => exact fun ρ W2 W3 h hb => St.same h hb
  case hEf =>
    refine ⟨?e3f, ?e4f, trivial⟩
    case e3f =>
      intro o ho ρ W2 h hcl h3' hd2 af haf
      obtain rfl := Option.some.inj ho
      replace haf : af = fillD _ ρ [] _ := haf
      simp only [fillD] at haf
      subst haf
      unfold SqR at h
      rw [h3'] at h
      obtain ⟨yy, hyy⟩ : ∃ yy : Array Value, yy = (if (ρ 4).isSome = true then #[.int .i64 pg.lev, .slice (some ⟨g, k * 2, none⟩) (pg.sl.length - k) (cap - k), .string pg.hi, .bool pg.la, .int .u64 pg.ri] else #[.int .i64 0, .slice none 0 0, .string ⟨#[]⟩, .bool false, .int .u64 0]) := ⟨_, rfl⟩
      rw [← hyy] at h
      have HY := Lib.hid hyy
      clear hyy
      have hs : St K W2 (blk (bp + 1) (.cells #[.int .i64 0, .slice none 0 0, .string ⟨#[]⟩, .bool false, .int .u64 0] 43) :: blk (bp + 2) (.cells yy 43) :: blk b3 (.cells #[.int .i64 pg.lev, .slice (some ⟨g, k * 2, none⟩) (pg.sl.length - k) (cap - k), .string pg.hi, .bool pg.la, .int .u64 pg.ri] 43) :: blk b2 (.cells #[.int .i64 pg.lev, .slice (some ⟨g, 0, none⟩) k k, .string sep, .bool false, .int .u64 r] 43) :: blk bp (.cells #[.int .i64 (pg).lev, (.slice (some ⟨g, 0, none⟩) pg.sl.length cap), .string (pg).hi, .bool (pg).la, .int .u64 (pg).ri] 43) :: rowC (.slice (some ⟨g, 0, none⟩) pg.sl.length cap) 69 2 pg.sl.length (slRow pg.sl) :: F) := h
      have k0 := hs.k0
      have f0 := hs.f0
      have hs := ((((hs.setL 0 (.int .i64 pg.lev)).setL 1 (.slice (some ⟨g, 0, none⟩) k k)).setL 2 (.string sep)).setL 3 (.bool false)).setL 4 (.int .u64 r)
      have Hs3 := Lib.hid hs
      clear h hs hcl hd2
      go_wp2
      refine ⟨rfl, undef, rfl, ?_⟩
      unfold SqR
      rw [show upd ρ 3 undef 3 = some undef by simp [upd], show upd ρ 3 undef 4 = ρ 4 by simp [upd], ← HY.out]
      exact Hs3.out
    case e4f =>
      intro o ho ρ W2 h hcl h4 hd2 af haf
      obtain rfl := Option.some.inj ho
      replace haf : af = fillD _ ρ [] _ := haf
      simp only [fillD] at haf
      subst haf
      unfold SqR at h
      rw [h4] at h
      obtain ⟨yy, hyy⟩ : ∃ yy : Array Value, yy = (if (ρ 3).isSome = true then #[.int .i64 pg.lev, .slice (some ⟨g, 0, none⟩) k k, .string sep, .bool false, .int .u64 r] else #[.int .i64 0, .slice none 0 0, .string ⟨#[]⟩, .bool false, .int .u64 0]) := ⟨_, rfl⟩
      rw [← hyy] at h
      have HY := Lib.hid hyy
      clear hyy
      have hs : St K W2 (blk (bp + 2) (.cells #[.int .i64 0, .slice none 0 0, .string ⟨#[]⟩, .bool false, .int .u64 0] 43) :: blk (bp + 1) (.cells yy 43) :: blk b3 (.cells #[.int .i64 pg.lev, .slice (some ⟨g, k * 2, none⟩) (pg.sl.length - k) (cap - k), .string pg.hi, .bool pg.la, .int .u64 pg.ri] 43) :: blk b2 (.cells #[.int .i64 pg.lev, .slice (some ⟨g, 0, none⟩) k k, .string sep, .bool false, .int .u64 r] 43) :: blk bp (.cells #[.int .i64 (pg).lev, (.slice (some ⟨g, 0, none⟩) pg.sl.length cap), .string (pg).hi, .bool (pg).la, .int .u64 (pg).ri] 43) :: rowC (.slice (some ⟨g, 0, none⟩) pg.sl.length cap) 69 2 pg.sl.length (slRow pg.sl) :: F) := h.re [1, 0] rfl
      have k0 := hs.k0
      have f0 := hs.f0
      have hs := ((((hs.setL 0 (.int .i64 pg.lev)).setL 1 (.slice (some ⟨g, k * 2, none⟩) (pg.sl.length - k) (cap - k))).setL 2 (.string pg.hi)).setL 3 (.bool pg.la)).setL 4 (.int .u64 pg.ri)
      have Hs3 := Lib.hid (hs.re [1, 0] rfl)
      clear h hs hcl hd2
      go_wp2
      refine ⟨rfl, undef, rfl, ?_⟩
      unfold SqR
      rw [show upd ρ 4 undef 4 = some undef by simp [upd], show upd ρ 4 undef 3 = ρ 3 by simp [upd], ← HY.out]
      exact Hs3.out
  case hQf =>
    intro ρ W2 h hall
    obtain ⟨v3, h3'⟩ := Option.isSome_iff_exists.1 (hall 3 (by simp))
    obtain ⟨v4, h4⟩ := Option.isSome_iff_exists.1 (hall 4 (by simp))
    unfold SqR at h
    rw [h3', h4] at h
    have hs : St K W2 (blk (bp + 1) (.cells #[.int .i64 pg.lev, .slice (some ⟨g, 0, none⟩) k k, .string sep, .bool false, .int .u64 r] 43) :: blk (bp + 2) (.cells #[.int .i64 pg.lev, .slice (some ⟨g, k * 2, none⟩) (pg.sl.length - k) (cap - k), .string pg.hi, .bool pg.la, .int .u64 pg.ri] 43) :: blk b3 (.cells #[.int .i64 pg.lev, .slice (some ⟨g, k * 2, none⟩) (pg.sl.length - k) (cap - k), .string pg.hi, .bool pg.la, .int .u64 pg.ri] 43) :: blk b2 (.cells #[.int .i64 pg.lev, .slice (some ⟨g, 0, none⟩) k k, .string sep, .bool false, .int .u64 r] 43) :: blk bp (.cells #[.int .i64 (pg).lev, (.slice (some ⟨g, 0, none⟩) pg.sl.length cap), .string (pg).hi, .bool (pg).la, .int .u64 (pg).ri] 43) :: rowC (.slice (some ⟨g, 0, none⟩) pg.sl.length cap) 69 2 pg.sl.length (slRow pg.sl) :: F) := h
    simp only [fillD, h3', h4, Option.getD_some, dstAt, List.getElem?_cons_succ, List.getElem?_cons_zero, Option.bind_some, Option.bind_none, Act.put]
    clear h hall h3' h4
    have q1 := hs.k0
    have q2 := hs.k1
    have eL : (splL pg r).sl.length = k := by
      show (pg.sl.take (splK pg.sl.length)).length = k
      rw [← Hk.out, List.length_take]; omega
    have eR : (splR pg).sl.length = pg.sl.length - k := by
      show (pg.sl.drop (splK pg.sl.length)).length = _
      rw [← Hk.out, List.length_drop]
    have eL2 : (splL pg r).sl = pg.sl.take k := by show pg.sl.take (splK pg.sl.length) = _; rw [← Hk.out]
    have eR2 : (splR pg).sl = pg.sl.drop k := by show pg.sl.drop (splK pg.sl.length) = _; rw [← Hk.out]
    have EL := Lib.hid (And.intro eL eL2)
    have ER := Lib.hid (And.intro eR eR2)
    clear eL eR eL2 eR2
    go_wp2
    refine bodyPost_ret (refSplit_res _ _ (bp + 1) (bp + 2) _ _ _ _ _ _ _ _ _ _ _ _ rfl rfl rfl rfl q1 q2) rfl ?_
    refine ⟨?_, ?_⟩
    · rw [EL.out.1, ER.out.1, Hsp.out]; rfl
    · exact (hs.re [0, 1, 2, 3, 4, 5] rfl).tail.tail.tail.tail.tail
end
end Go.Proofs.YtlpdhhhgckpcfaaGreat
