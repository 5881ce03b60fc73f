/- The reference's Same of any two pages; whether a page is among the law's. -/
import Derived.Test.YtfgjanponijkhaaNodeSame
namespace Go.Proofs.Ytfgjanponijkhaa
open Go.RowKit
set_option maxRecDepth 100000

theorem toList_inj {a b : ByteArray} (h : a.toList = b.toList) : a = b := by
  rw [ByteArray.toList_eq, ByteArray.toList_eq] at h
  exact Go.WideShapes.bytes_inj h
theorem toList_ne {a b : ByteArray} (h : ¬ a = b) : ¬ a.toList = b.toList := fun e => h (toList_inj e)
theorem neq_slot2 {k k' : ByteArray} {r r' : Int} (h : (⟨k, r⟩ : Sl) ≠ ⟨k', r'⟩) (w : World) : (binOp .neq 132 (.agg #[.string k, .int .u64 r]) (.agg #[.string k', .int .u64 r'])).run Try.prog w = .ok (.bool true) w := by
  have h' : ¬ (k = k' ∧ r = r') := fun ⟨a, b⟩ => h (by rw [a, b])
  by_cases h1 : k = k'
  · subst h1
    have h2 : ¬ r = r' := fun e => h' ⟨rfl, e⟩
    simp [go_sem, h2]
  · simp [go_sem, toList_ne h1]

section
variable {p q : Pg} {a a' : Option Addr} {cap cap' : Nat}
set_option maxHeartbeats 4000000 in
/-- Two pages: some answer; true if they are the same. -/
theorem same_boolP (w : World) (PP : Value → World → Prop) (hP : Hid ((p ≠ q → ∀ w', Below w.heap.size w w' → PP (.bool false) w') ∧ (p = q → ∀ w', Below w.heap.size w w' → PP (.bool true) w'))) (hg : SlAt w a p.sl) (hh : SlAt w a' q.sl) :
    Calls Try.prog 29 #[.agg #[.int .i64 (p).lev, (.slice a p.sl.length cap), .string (p).hi, .bool (p).la, .int .u64 (p).ri], .agg #[.int .i64 (q).lev, (.slice a' q.sl.length cap'), .string (q).hi, .bool (q).la, .int .u64 (q).ri]] w fun e w' => ∃ v, e = .returned v ∧ PP v w' := by
  have hX := hg.1
  have hY := hh.1
  obtain ⟨n, hn⟩ : ∃ n, n = p.sl.length := ⟨_, rfl⟩
  obtain ⟨m, hm⟩ : ∃ m, m = q.sl.length := ⟨_, rfl⟩
  rw [← hn] at hX ⊢
  rw [← hm] at hY ⊢
  have Hn := Lib.hid hn
  have Hm := Lib.hid hm
  have Hg := Lib.hid hg
  have Hh := Lib.hid hh
  obtain ⟨plev, psl, phi, pla, pri⟩ := p
  obtain ⟨qlev, qsl, qhi, qla, qri⟩ := q
  have hs := ((St.start w).made (.cells #[.int .i64 plev, .slice a n cap, .string phi, .bool pla, .int .u64 pri] 25)).made (.cells #[.int .i64 qlev, .slice a' m cap', .string qhi, .bool qla, .int .u64 qri] 25)
  rw [World.size_alloc] at hs
  clear hn hm hg hh
  have hb := hs.below (Know.Le.refl _)
  have k1 := hs.k1
  have k0 := hs.k0
  have Hb := Lib.hid hb
  clear hb
  by_cases h1 : plev = qlev
  case neg =>
    go_enter Try.func29, Try.ntmps29
    go_wp2
    go_ret
    exact ⟨_, rfl, hP.out.1 (fun e => absurd (congrArg Pg.lev e) h1) _ (Hb.out)⟩
  by_cases h2 : phi = qhi
  case neg =>
    subst h1
    have h2' : (phi.toList == qhi.toList) = false := beq_eq_false_iff_ne.2 (toList_ne h2)
    go_enter Try.func29, Try.ntmps29
    go_wp2
    go_ret
    exact ⟨_, rfl, hP.out.1 (fun e => absurd (congrArg Pg.hi e) h2) _ (Hb.out)⟩
  subst h1 h2
  by_cases h3 : pla = qla
  case neg =>
    go_enter Try.func29, Try.ntmps29
    go_wp2
    go_ret
    exact ⟨_, rfl, hP.out.1 (fun e => absurd (congrArg Pg.la e) h3) _ (Hb.out)⟩
  subst h3
  by_cases h4 : pri = qri
  case neg =>
    go_enter Try.func29, Try.ntmps29
    go_wp2
    go_ret
    exact ⟨_, rfl, hP.out.1 (fun e => absurd (congrArg Pg.ri e) h4) _ (Hb.out)⟩
  subst h4
  by_cases h5 : n = m
  case neg =>
    go_enter Try.func29, Try.ntmps29
    go_wp2
    go_ret
    exact ⟨_, rfl, hP.out.1 (fun e => absurd (by rw [Hn.out, Hm.out]; exact congrArg (fun x : Pg => x.sl.length) e) h5) _ (Hb.out)⟩
  subst h5
  clear k0 k1 Hb
  go_enter Try.func29, Try.ntmps29
  go_wp2
  go_loopw [5] (fun v wr => ∃ k : Nat, k ≤ n ∧ v = .int .i64 k ∧ Hid (∀ i, i < k → psl[i]? = qsl[i]?) ∧ St (Know.of w) wr [blk (w.heap.size + 1) (.cells #[.int .i64 plev, .slice a' n cap', .string phi, .bool pla, .int .u64 pri] 25), blk w.heap.size (.cells #[.int .i64 plev, .slice a n cap, .string phi, .bool pla, .int .u64 pri] 25)]) (fun v _ => n - (intOf v).toNat)
  case atStart => exact ⟨0, by omega, rfl, Lib.hid (fun i h => by omega), hs⟩
  case round =>
    clear hs
    obtain ⟨k, hk, rfl, He, hs⟩ := hrel
    have hb := hs.below (Know.Le.refl _)
    have k1 := hs.k1
    have k0 := hs.k0
    by_cases hlt : k < n
    · have hl' : k < psl.length := by rw [← Hn.out]; exact hlt
      have hl2 : k < qsl.length := by rw [← Hm.out]; exact hlt
      obtain ⟨b1, off1, rfl, _, c0, c1⟩ := (Hg.out.same hb).2 k psl[k] (List.getElem?_eq_getElem hl')
      obtain ⟨b2, off2, rfl, _, d0, d1⟩ := (Hh.out.same hb).2 k qsl[k] (List.getElem?_eq_getElem hl2)
      by_cases hu : psl[k] = qsl[k]
      · rw [← hu] at d0 d1
        have He2 : Hid (∀ i, i < k + 1 → psl[i]? = qsl[i]?) := Lib.hid (fun i hi => by
          rcases Nat.lt_succ_iff_lt_or_eq.1 hi with h | rfl
          · exact He.out i h
          · rw [List.getElem?_eq_getElem hl', List.getElem?_eq_getElem hl2, hu])
        clear hu
        generalize psl[k] = u at *
        have hq := neq_slot u.k u.r
        clear hl' hl2
        go_upto_region 6 with (fail)
        refine region_pure (by kernel_rfl) (by kernel_rfl) ?_
        repeat (go_big_quiet_step (fail))
        refine wpQuiet_nil ?_
        intro w2 hb2
        have hs := hs.same hb2
        clear c0 c1 d0 d1 hq hb2 k0 k1 hb
        go_wp2
        go_roundw
        case rel => exact ⟨k + 1, by omega, by go_num, He2, hs⟩
        case measure => simp [intOf]; omega
      · have hne : Hid (¬ psl = qsl) := Lib.hid (fun e => by subst e; exact hu rfl)
        generalize psl[k] = u at *
        generalize qsl[k] = v at *
        obtain ⟨uk, ur⟩ := u
        obtain ⟨vk, vr⟩ := v
        have hq := neq_slot2 hu
        clear hl' hl2 hu
        go_upto_region 6 with (fail)
        refine region_pure (by kernel_rfl) (by kernel_rfl) ?_
        repeat (go_big_quiet_step (fail))
        refine wpQuiet_nil ?_
        intro w2 hb2
        have hs := hs.same hb2
        clear c0 c1 d0 d1 hq hb2 k0 k1 hb
        go_wp2
        go_ret
        exact ⟨_, rfl, hP.out.1 (fun e => absurd (congrArg Pg.sl e) hne.out) _ (hs.below (Know.Le.refl _))⟩
    · obtain rfl : k = n := by omega
      go_wp2
      go_ret
      exact ⟨_, rfl, hP.out.2 (by congr 1; exact List.ext_getElem? (fun i => by
        rcases Nat.lt_or_ge i k with h | h
        · exact He.out i h
        · rw [List.getElem?_eq_none (by rw [← Hn.out]; exact h), List.getElem?_eq_none (by rw [← Hm.out]; exact h)])) _ hb⟩

/-- Are two pages the same? -/
noncomputable def sameB (p q : Pg) : Bool := @decide (p = q) (Classical.propDecidable _)
theorem sameB_eq (p : Pg) : sameB p p = true := by unfold sameB; exact @decide_eq_true _ (Classical.propDecidable _) rfl
theorem sameB_ne {p q : Pg} (h : p ≠ q) : sameB p q = false := by unfold sameB; exact @decide_eq_false _ (Classical.propDecidable _) h
theorem same_bool (w : World) (hg : SlAt w a p.sl) (hh : SlAt w a' q.sl) :
    Calls Try.prog 29 #[.agg #[.int .i64 (p).lev, (.slice a p.sl.length cap), .string (p).hi, .bool (p).la, .int .u64 (p).ri], .agg #[.int .i64 (q).lev, (.slice a' q.sl.length cap'), .string (q).hi, .bool (q).la, .int .u64 (q).ri]] w fun e w' => e = .returned (.bool (sameB p q)) ∧ Below w.heap.size w w' :=
  (same_boolP w (fun v w' => v = .bool (sameB p q) ∧ Below w.heap.size w w') (Lib.hid ⟨fun h w' hb => ⟨by rw [sameB_ne h], hb⟩, fun h w' hb => ⟨by rw [h, sameB_eq], hb⟩⟩) hg hh).mono fun e w' ⟨v, h1, h2, h3⟩ => ⟨by rw [h1, h2], h3⟩

/-- The row's page i, and its slots. -/
def PgAt (w : World) (g : Nat) (off : Nat) (x : Pg) : Prop :=
  ∃ (s : Option Addr) (c : Nat), w.cell? ⟨g, off, none⟩ = some (.int .i64 x.lev) ∧ w.cell? ⟨g, off + 1, none⟩ = some (.slice s x.sl.length c) ∧ w.cell? ⟨g, off + 2, none⟩ = some (.string x.hi) ∧
    w.cell? ⟨g, off + 3, none⟩ = some (.bool x.la) ∧ w.cell? ⟨g, off + 4, none⟩ = some (.int .u64 x.ri) ∧ SlAt w s x.sl
theorem PgAt.same {w w' : World} {g off : Nat} {x : Pg} (h : PgAt w g off x) (hg : g < w.heap.size) (hb : Below w.heap.size w w') : PgAt w' g off x := by
  obtain ⟨s, c, h0, h1, h2, h3, h4, h5⟩ := h
  exact ⟨s, c, by rw [hb.cell (p := ⟨g, _, none⟩) hg]; exact h0, by rw [hb.cell (p := ⟨g, _, none⟩) hg]; exact h1, by rw [hb.cell (p := ⟨g, _, none⟩) hg]; exact h2, by rw [hb.cell (p := ⟨g, _, none⟩) hg]; exact h3, by rw [hb.cell (p := ⟨g, _, none⟩) hg]; exact h4, h5.same hb⟩

set_option maxHeartbeats 4000000 in
/-- A page that is in the row. -/
theorem among_any (w : World) {g off n cp j : Nat} (xs : Nat → Pg) (hg : g < w.heap.size) (hn : n ≤ 1000000) (hx : ∀ i, i < n → PgAt w g (off + i * 5) (xs i)) (hh : SlAt w a' q.sl) (hj : j < n) (hq : xs j = q) :
    Calls Try.prog 49 #[.slice (some ⟨g, off, none⟩) n cp, .agg #[.int .i64 (q).lev, (.slice a' q.sl.length cap'), .string (q).hi, .bool (q).la, .int .u64 (q).ri]] w fun e w' => e = .returned (.bool true) ∧ Below w.heap.size w w' := by
  have hs := (St.start w).made (.cells #[.int .i64 (q).lev, (.slice a' q.sl.length cap'), .string (q).hi, .bool (q).la, .int .u64 (q).ri] 25)
  have Hx := Lib.hid hx
  have Hh := Lib.hid hh
  have Hq := Lib.hid hq
  have Hg := Lib.hid hg
  clear hx hh hq hg
  go_enter Try.func49, Try.ntmps49
  go_wp2
  go_loopw [5] (fun v wr => ∃ k : Nat, k ≤ j ∧ v = .int .i64 k ∧ St (Know.of w) wr [blk w.heap.size (.cells #[.int .i64 (q).lev, (.slice a' q.sl.length cap'), .string (q).hi, .bool (q).la, .int .u64 (q).ri] 25)]) (fun v _ => n - (intOf v).toNat)
  case atStart => exact ⟨0, by omega, rfl, hs⟩
  case round =>
    clear hs
    obtain ⟨k, hk, rfl, hs⟩ := hrel
    have hlt : k < n := by omega
    have hb := hs.below (Know.Le.refl _)
    have k0 := hs.k0
    obtain ⟨s, c, c0, c1, c2, c3, c4, hsl⟩ := (Hx.out k hlt).same Hg.out hb
    have Hk : Hid (sameB (xs k) q = false → k < j) := Lib.hid (fun hf => by
      rcases Nat.lt_or_ge k j with h | h
      · exact h
      · obtain rfl : k = j := by omega
        rw [Hq.out, sameB_eq] at hf
        cases hf)
    obtain ⟨b, hbv⟩ : ∃ b, b = sameB (xs k) q := ⟨_, rfl⟩
    rw [← hbv] at Hk
    have qy := fun wz (hy : ∃ x : Ext, wz = over wr x) => same_bool (p := xs k) (q := q) (a := s) (a' := a') (cap := c) (cap' := cap') wz (hsl.same (Pure.below hy)) ((Hh.out.same hb).same (Pure.below hy))
    rw [← hbv] at qy
    have Q := Lib.hid qy
    clear hsl qy hbv
    generalize xs k = x at *
    go_upto_region 4 with (fail)
    refine region_pure (by kernel_rfl) (by kernel_rfl) ?_
    repeat (go_big_quiet_step ((go_at_call 29; exact pure_of (Q.out _ ⟨_, rfl⟩))))
    refine wpQuiet_nil ?_
    intro w2 hb2
    have hs := hs.same hb2
    clear c0 c1 c2 c3 c4 hb2 k0 hb Q
    cases b with
    | true =>
      go_wp2
      go_ret
      exact ⟨rfl, hs.below (Know.Le.refl _)⟩
    | false =>
      have hkj := Hk.out (by simp)
      go_wp2
      go_roundw
      case rel => exact ⟨k + 1, by omega, by go_num, hs⟩
      case measure => simp [intOf]; omega
end
end Go.Proofs.Ytfgjanponijkhaa
