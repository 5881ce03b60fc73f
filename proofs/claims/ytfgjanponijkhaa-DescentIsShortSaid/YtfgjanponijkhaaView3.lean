/- blinktreecells.View: node, Height; blinktreekit.View. -/
import Derived.Test.YtfgjanponijkhaaViewA
import Derived.Test.YtfgjanponijkhaaGr
namespace Go.Proofs.Ytfgjanponijkhaa
open Go.RowKit
set_option maxRecDepth 100000
section
variable {K : Know} {w : World} {F : List Comp} {d : Cfg} {g : Nat} {L : List Cel}
set_option maxHeartbeats 1000000 in
theorem viewNode_st (hd : d.Ok) (id : Int) (hid : 0 ≤ id ∧ id < 18446744073709551616) (hg : K.map g = some (.cells (flat L).toArray 41)) (hl : L.length ≤ 1000000) (hs : St K w F) :
    Calls Try.prog 132 #[.agg #[.int .i64 (d).th, .int .i64 (d).sn, .int .i64 (d).no, .int .i64 (d).ch, .int .i64 (d).re, .int .i64 (d).fa, .int .u64 (d).cl, .slice (some ⟨g, 0, none⟩) L.length L.length], .int .u64 id] w fun e w' => e = .returned (.bool (decide (1 ≤ id ∧ id ≤ d.no ∧ id ≤ (getC L 4).n))) ∧ St K w' F := by
  have hno1 := hd.no1
  have hno2 := hd.no2
  have hs := hs.made (.cells #[.int .i64 (d).th, .int .i64 (d).sn, .int .i64 (d).no, .int .i64 (d).ch, .int .i64 (d).re, .int .i64 (d).fa, .int .u64 (d).cl, .slice (some ⟨g, 0, none⟩) L.length L.length] 110)
  have Q := Lib.hid (fun W cs (h : St K W cs) => viewAt_any (d := d) 4 W (vat_of hg hl h))
  generalize L.length = n at *
  generalize getC L 4 = c at *
  have k := hs.k0
  by_cases h1 : 1 ≤ id
  · by_cases h2 : id ≤ d.no
    · rw [show decide (1 ≤ id ∧ id ≤ d.no ∧ id ≤ c.n) = decide (id ≤ c.n) by simp [h1, h2]]
      go_enter Try.func132, Try.ntmps132
      go_wp2_with fail
      refine (calls_same hs (Q.out _ _ hs)).mono ?_
      clear hs k Q
      rintro e w1 ⟨rfl, hs⟩
      go_wp2
      go_ret
      exact ⟨rfl, hs.tail⟩
    · rw [show decide (1 ≤ id ∧ id ≤ d.no ∧ id ≤ c.n) = false by simp [h2]]
      go_enter Try.func132, Try.ntmps132
      go_wp2
      go_ret
      exact ⟨rfl, hs.tail⟩
  · rw [show decide (1 ≤ id ∧ id ≤ d.no ∧ id ≤ c.n) = false by simp [h1]]
    go_enter Try.func132, Try.ntmps132
    go_wp2
    go_ret
    exact ⟨rfl, hs.tail⟩

theorem field_page0 (w : World) (lev ri : Int) (a : Option Addr) (n c : Nat) (hi : ByteArray) (la : Bool) : (Instr.field 25 (.agg #[.int .i64 lev, .slice a n c, .string hi, .bool la, .int .u64 ri]) 0).run Try.prog w = .ok (.int .i64 lev) w := rfl
theorem field_page2 (w : World) (lev ri : Int) (a : Option Addr) (n c : Nat) (hi : ByteArray) (la : Bool) : (Instr.field 25 (.agg #[.int .i64 lev, .slice a n c, .string hi, .bool la, .int .u64 ri]) 2).run Try.prog w = .ok (.string hi) w := rfl
theorem field_page4' (w : World) (lev ri : Int) (a : Option Addr) (n c : Nat) (hi : ByteArray) (la : Bool) : (Instr.field 25 (.agg #[.int .i64 lev, .slice a n c, .string hi, .bool la, .int .u64 ri]) 4).run Try.prog w = .ok (.int .u64 ri) w := rfl
attribute [go_sem] field_page0 field_page2 field_page4'
/-- While Height runs: the root's page (4), its level (5), one more (6), the result (7). -/
def HtR (K : Know) (pg : Pg) (REST : List Comp) (ρ : Nat → Option Value) (W : World) : Prop :=
  St K W REST ∧ (∀ v, ρ 4 = some v → ∃ (a : Option Addr) (c : Nat), v = .agg #[.int .i64 pg.lev, .slice a pg.sl.length c, .string pg.hi, .bool pg.la, .int .u64 pg.ri]) ∧ (∀ v, ρ 5 = some v → v = .int .i64 pg.lev) ∧ (∀ v, ρ 6 = some v → v = .int .i64 (pg.lev + 1)) ∧ (∀ v, ρ 7 = some v → v = .int .i64 (pg.lev + 1))
set_option maxHeartbeats 4000000 in
/-- The number of levels, at a root whose page is known. -/
theorem viewHeight_st {pg : Pg} (hd : d.Ok) (h1 : 1 ≤ (getC L 0).n) (h2 : (getC L 0).n ≤ d.no) (hp : PageAt d (getC L 0).n L pg) (hlev : 0 ≤ pg.lev ∧ pg.lev < 1000000) (hg : K.map g = some (.cells (flat L).toArray 41)) (hl : L.length ≤ 1000000) (hs : St K w F) :
    Calls Try.prog 73 #[.agg #[.int .i64 (d).th, .int .i64 (d).sn, .int .i64 (d).no, .int .i64 (d).ch, .int .i64 (d).re, .int .i64 (d).fa, .int .u64 (d).cl, .slice (some ⟨g, 0, none⟩) L.length L.length]] w fun e w' => e = .returned (.int .i64 (pg.lev + 1)) ∧ St K w' F := by
  have hs := hs.made (.cells #[.int .i64 (d).th, .int .i64 (d).sn, .int .i64 (d).no, .int .i64 (d).ch, .int .i64 (d).re, .int .i64 (d).fa, .int .u64 (d).cl, .slice (some ⟨g, 0, none⟩) L.length L.length] 110)
  have Q := Lib.hid (fun W cs (h : St K W cs) => viewAt_any (d := d) 0 W (vat_of hg hl h))
  have Q2 := Lib.hid (fun W cs (h : St K W cs) => viewPage_st hd h1 h2 hp hg hl h)
  generalize L.length = n at *
  generalize getC L 0 = c at *
  go_enter Try.func73, Try.ntmps73
  go_upto_region 1 with (fail)
  have Hs := Lib.hid hs
  clear hs
  refine region_effects [false, false, false, false, true, true, true, true] [4, 5, 6, 7] (fun | 5 => [4] | 6 => [5] | 7 => [6] | _ => [])
    (HtR K pg (blk w.heap.size (.cells #[.int .i64 (d).th, .int .i64 (d).sn, .int .i64 (d).no, .int .i64 (d).ch, .int .i64 (d).re, .int .i64 (d).fa, .int .u64 (d).cl, .slice (some ⟨g, 0, none⟩) n n] 110) :: F))
    (fun W => St K W (blk w.heap.size (.cells #[.int .i64 (d).th, .int .i64 (d).sn, .int .i64 (d).no, .int .i64 (d).ch, .int .i64 (d).re, .int .i64 (d).fa, .int .u64 (d).cl, .slice (some ⟨g, 0, none⟩) n n] 110) :: F)) ?aS (by kernel_rfl) ?hB ?H ?haS ?h0 ?hI ?hR ?hE ?hQ
  case hB => as_aux_lemma => kernel_rfl
  case H =>
    intro W2 hs
    have kv := hs.k0
    have Qy := Lib.hid (fun wz (hy : ∃ x : Ext, wz = over W2 x) => Q.out wz _ (hs.same (Pure.below hy)))
    clear hs
    simp only [withM]
    repeat (go_big_quiet_step ((go_at_call 129; exact pure_of (Qy.out _ ⟨_, rfl⟩))))
    refine wpQuiet_nil ?_
    rfl
  case haS => rfl
  case h0 => exact ⟨Hs.out, fun v h => (by cases h), fun v h => (by cases h), fun v h => (by cases h), fun v h => (by cases h)⟩
  case hI => exact fun ρ W2 h => h.1
  case hR => exact fun ρ W2 W3 h hb => ⟨h.1.same hb, h.2⟩
  case hE =>
    refine ⟨?e4, ?e5, ?e6, ?e7, trivial⟩
    case e4 =>
      intro o ho ρ W2 h hcl h4 hd2 af haf
      obtain rfl := Option.some.inj ho
      replace haf : af = fillD _ ρ [] _ := haf
      simp only [fillD] at haf
      subst haf
      obtain ⟨hs, q4, q5, q6, q7⟩ := h
      have H5 := Lib.hid q5
      have H6 := Lib.hid q6
      have H7 := Lib.hid q7
      clear q4 q5 q6 q7 hcl hd2
      go_wp2_with fail
      refine (Q2.out _ _ hs).mono ?_
      rintro e W3 ⟨va, rfl, hs'⟩
      obtain ⟨a, c, rfl, _, _⟩ := hs'.row_read
      go_wp2
      refine ⟨rfl, _, rfl, hs'.tail, fun v h => ⟨a, c, by simpa [upd] using h.symm⟩, fun v h => H5.out v (by simpa [upd] using h), fun v h => H6.out v (by simpa [upd] using h), fun v h => H7.out v (by simpa [upd] using h)⟩
    case e5 =>
      intro o ho ρ W2 h hcl h5 hd2 af haf
      obtain rfl := Option.some.inj ho
      replace haf : af = fillD _ ρ [4] _ := haf
      obtain ⟨v4, h4⟩ := Option.isSome_iff_exists.1 (hd2 4 (by show _ ∈ [4]; simp))
      obtain ⟨hs, q4, q5, q6, q7⟩ := h
      obtain ⟨a, c, rfl⟩ := q4 v4 h4
      simp only [fillD, h4, Option.getD_some, dstAt, List.getElem?_cons_succ, List.getElem?_cons_zero, Option.bind_some, Option.bind_none, Act.put, List.setIfInBounds_toArray, List.set_cons_zero, List.set_cons_succ] at haf
      subst haf
      have H4 := Lib.hid q4
      have H6 := Lib.hid q6
      have H7 := Lib.hid q7
      have Hs2 := Lib.hid hs
      clear q4 q5 q6 q7 hcl hd2 h4 hs
      go_wp2
      refine ⟨rfl, _, rfl, Hs2.out, fun v h => H4.out v (by simpa [upd] using h), fun v h => by simpa [upd] using h.symm, fun v h => H6.out v (by simpa [upd] using h), fun v h => H7.out v (by simpa [upd] using h)⟩
    case e6 =>
      intro o ho ρ W2 h hcl h6 hd2 af haf
      obtain rfl := Option.some.inj ho
      replace haf : af = fillD _ ρ [5] _ := haf
      obtain ⟨v5, h5⟩ := Option.isSome_iff_exists.1 (hd2 5 (by show _ ∈ [5]; simp))
      obtain ⟨hs, q4, q5, q6, q7⟩ := h
      obtain rfl := q5 v5 h5
      simp only [fillD, h5, Option.getD_some, dstAt, List.getElem?_cons_succ, List.getElem?_cons_zero, Option.bind_some, Option.bind_none, Act.put, List.setIfInBounds_toArray, List.set_cons_zero, List.set_cons_succ] at haf
      subst haf
      have H4 := Lib.hid q4
      have H5 := Lib.hid q5
      have H7 := Lib.hid q7
      have Hs2 := Lib.hid hs
      clear q4 q5 q6 q7 hcl hd2 h5 hs
      go_wp2
      refine ⟨rfl, _, rfl, Hs2.out, fun v h => H4.out v (by simpa [upd] using h), fun v h => H5.out v (by simpa [upd] using h), fun v h => by simpa [upd] using h.symm, fun v h => H7.out v (by simpa [upd] using h)⟩
    case e7 =>
      intro o ho ρ W2 h hcl h7 hd2 af haf
      obtain rfl := Option.some.inj ho
      replace haf : af = fillD _ ρ [6] _ := haf
      obtain ⟨v6, h6⟩ := Option.isSome_iff_exists.1 (hd2 6 (by show _ ∈ [6]; simp))
      obtain ⟨hs, q4, q5, q6, q7⟩ := h
      obtain rfl := q6 v6 h6
      simp only [fillD, h6, Option.getD_some, dstAt, List.getElem?_cons_succ, List.getElem?_cons_zero, Option.bind_some, Option.bind_none, Act.put, List.setIfInBounds_toArray, List.set_cons_zero, List.set_cons_succ] at haf
      subst haf
      have H4 := Lib.hid q4
      have H5 := Lib.hid q5
      have H6 := Lib.hid q6
      have Hs2 := Lib.hid hs
      clear q4 q5 q6 q7 hcl hd2 h6 hs
      go_wp2
      refine ⟨rfl, _, rfl, Hs2.out, fun v h => H4.out v (by simpa [upd] using h), fun v h => H5.out v (by simpa [upd] using h), fun v h => H6.out v (by simpa [upd] using h), fun v h => by simpa [upd] using h.symm⟩
  case hQ =>
    intro ρ W2 h hall
    obtain ⟨v4, h4⟩ := Option.isSome_iff_exists.1 (hall 4 (by simp))
    obtain ⟨v5, h5⟩ := Option.isSome_iff_exists.1 (hall 5 (by simp))
    obtain ⟨v6, h6⟩ := Option.isSome_iff_exists.1 (hall 6 (by simp))
    obtain ⟨v7, h7⟩ := Option.isSome_iff_exists.1 (hall 7 (by simp))
    obtain ⟨hs, q4, q5, q6, q7⟩ := h
    obtain ⟨a, c, rfl⟩ := q4 v4 h4
    obtain rfl := q5 v5 h5
    obtain rfl := q6 v6 h6
    obtain rfl := q7 v7 h7
    simp only [fillD, h4, h5, h6, h7, Option.getD_some, dstAt, List.getElem?_cons_succ, List.getElem?_cons_zero, Option.bind_some, Option.bind_none, Act.put, List.setIfInBounds_toArray, List.set_cons_zero, List.set_cons_succ]
    clear q4 q5 q6 q7 h4 h5 h6 h7 hall
    go_wp2
    go_ret
    exact ⟨rfl, hs.tail⟩

/-- A memory as plain data: its cells lie in a block that nobody writes. -/
theorem kview_res (tmps : Array Value) (w : World) (b : Nat) (v0 v1 v2 v3 v4 v5 v6 v7 : Value) (hp : tmps[4]? = some (.pointer (some ⟨b, 0, none⟩))) (hk : ∀ k, w.cell? ⟨b, k, none⟩ = (#[v0, v1, v2, v3, v4, v5, v6, v7] : Array Value)[k]?) :
    (results Try.f72 tmps).run Try.prog w = .ok (.agg #[v0, v1, v2, v3, v4, v5, v6, v7]) w := by
  simp [results, Try.results72, go_sem, hp, hk]
/-- While View runs: the row of cells (2), the view (3), its variable (4). -/
def KvR (K : Know) (d : Cfg) (L : List Cel) (b : Nat) (REST : List Comp) (ρ : Nat → Option Value) (W : World) : Prop :=
  ∃ g : Nat, (∀ v, ρ 2 = some v → v = .slice (some ⟨g, 0, none⟩) L.length L.length) ∧ (∀ v, ρ 3 = some v → v = .agg #[.int .i64 (d).th, .int .i64 (d).sn, .int .i64 (d).no, .int .i64 (d).ch, .int .i64 (d).re, .int .i64 (d).fa, .int .u64 (d).cl, .slice (some ⟨g, 0, none⟩) L.length L.length]) ∧ (∀ v, ρ 4 = some v → (ρ 3).isSome = true) ∧
    St K W (blk (b + 1) (.cells (if (ρ 4).isSome then #[.int .i64 (d).th, .int .i64 (d).sn, .int .i64 (d).no, .int .i64 (d).ch, .int .i64 (d).re, .int .i64 (d).fa, .int .u64 (d).cl, .slice (some ⟨g, 0, none⟩) L.length L.length] else #[.int .i64 0, .int .i64 0, .int .i64 0, .int .i64 0, .int .i64 0, .int .i64 0, .int .u64 0, .slice none 0 0]) 110) :: optC (ρ 2) (blk g (.cells (flat L).toArray 41)) :: blk b (.cells #[.int .i64 (d).th, .int .i64 (d).sn, .int .i64 (d).no, .int .i64 (d).ch, .int .i64 (d).re, .int .i64 (d).fa, .int .u64 (d).cl] 27) :: REST)
set_option maxHeartbeats 4000000 in
theorem kitView_st {bm bc acc : Nat} (hs : St K w (memC bm bc L acc :: F)) :
    Calls Try.prog 72 #[.agg #[.int .i64 (d).th, .int .i64 (d).sn, .int .i64 (d).no, .int .i64 (d).ch, .int .i64 (d).re, .int .i64 (d).fa, .int .u64 (d).cl], (.pointer (some ⟨bm, 0, none⟩))] w fun e w' => ∃ g, e = .returned (.agg #[.int .i64 (d).th, .int .i64 (d).sn, .int .i64 (d).no, .int .i64 (d).ch, .int .i64 (d).re, .int .i64 (d).fa, .int .u64 (d).cl, .slice (some ⟨g, 0, none⟩) L.length L.length]) ∧ K.Le (K.add g (.cells (flat L).toArray 41)) ∧ (K.add g (.cells (flat L).toArray 41)).map g = some (.cells (flat L).toArray 41) ∧ St (K.add g (.cells (flat L).toArray 41)) w' (memC bm bc L acc :: F) := by
  have hs := hs.made (.cells #[.int .i64 (d).th, .int .i64 (d).sn, .int .i64 (d).no, .int .i64 (d).ch, .int .i64 (d).re, .int .i64 (d).fa, .int .u64 (d).cl] 27)
  have hs := hs.made (.cells #[.int .i64 0, .int .i64 0, .int .i64 0, .int .i64 0, .int .i64 0, .int .i64 0, .int .u64 0, .slice none 0 0] 110)
  simp only [World.size_alloc] at hs
  go_enter Try.func72, Try.ntmps72
  go_upto_region 1 with (fail)
  have Hs := Lib.hid hs
  clear hs
  refine region_effects [false, false, true, true, true] [2, 3, 4] (fun | 3 => [2] | 4 => [3] | _ => [])
    (KvR K d L w.heap.size (memC bm bc L acc :: F))
    (fun W => ∃ cs, St K W (blk w.heap.size (.cells #[.int .i64 (d).th, .int .i64 (d).sn, .int .i64 (d).no, .int .i64 (d).ch, .int .i64 (d).re, .int .i64 (d).fa, .int .u64 (d).cl] 27) :: cs)) ?aS (by kernel_rfl) ?hB ?H ?haS ?h0 ?hI ?hR ?hE ?hQ
  case hB => as_aux_lemma => kernel_rfl
  case H =>
    rintro W2 ⟨cs, hs⟩
    have kv := hs.k0
    clear hs
    simp only [withM]
    repeat (go_big_quiet_step (fail))
    refine wpQuiet_nil ?_
    rfl
  case haS => rfl
  case h0 => exact ⟨0, fun v h => (by cases h), fun v h => (by cases h), fun v h => (by cases h), (Hs.out.b1.empty.b2 : St K _ (_ :: emptyC :: _))⟩
  case hI => exact fun ρ W2 ⟨g, _, _, _, hs⟩ => ⟨_, hs.b2⟩
  case hR => exact fun ρ W2 W3 ⟨g, a, b, c, hs⟩ hb => ⟨g, a, b, c, hs.same hb⟩
  case hE =>
    refine ⟨?e2, ?e3, ?e4, trivial⟩
    case e2 =>
      intro o ho ρ W2 h hcl h2 hd2 af haf
      obtain rfl := Option.some.inj ho
      replace haf : af = fillD _ ρ [] _ := haf
      have h3 : ρ 3 = none := hcl.none (by simp) (show 2 ∈ [2] by simp) h2
      have h4 : ρ 4 = none := hcl.none (by simp) (show 3 ∈ [3] by simp) h3
      simp only [fillD] at haf
      subst haf
      obtain ⟨g, q2, q3, q4, hs⟩ := h
      rw [h2, h4] at hs
      have hs := (show St K W2 (_ :: emptyC :: _ :: memC bm bc L acc :: F) from hs).drop1.b2
      have H3 := Lib.hid h3
      have H4 := Lib.hid h4
      clear q2 q3 q4 hcl hd2 h2 h3 h4
      go_wp2_with fail
      refine (kitCells_st hs).mono ?_
      rintro e W3 ⟨g', rfl, hs'⟩
      have Hs' := Lib.hid hs'
      clear hs hs'
      go_wp2
      refine ⟨rfl, _, rfl, g', fun v h => by simpa [upd] using h.symm, fun v h => ?_, fun v h => ?_, ?_⟩
      · have : ρ 3 = some v := by simpa [upd] using h
        rw [H3.out] at this; cases this
      · have : ρ 4 = some v := by simpa [upd] using h
        rw [H4.out] at this; cases this
      · have e4 : upd ρ 2 (.slice (some ⟨g', 0, none⟩) L.length L.length) 4 = none := by simp [upd, H4.out]
        have e2 : upd ρ 2 (.slice (some ⟨g', 0, none⟩) L.length L.length) 2 = some (.slice (some ⟨g', 0, none⟩) L.length L.length) := by simp [upd]
        rw [e4, e2]
        exact Hs'.out.re [2, 0, 3, 1] rfl
    case e3 =>
      intro o ho ρ W2 h hcl h3 hd2 af haf
      obtain rfl := Option.some.inj ho
      replace haf : af = fillD _ ρ [2] _ := haf
      obtain ⟨v2, h2⟩ := Option.isSome_iff_exists.1 (hd2 2 (by show _ ∈ [2]; simp))
      have h4 : ρ 4 = none := hcl.none (by simp) (show 3 ∈ [3] by simp) h3
      obtain ⟨g, q2, q3, q4, hs⟩ := h
      obtain rfl := q2 v2 h2
      simp only [fillD, h2, Option.getD_some, dstAt, List.getElem?_cons_succ, List.getElem?_cons_zero, Option.bind_some, Option.bind_none, Act.put, List.setIfInBounds_toArray, List.set_cons_zero, List.set_cons_succ] at haf
      subst haf
      have Hq2 := Lib.hid q2
      have H4 := Lib.hid h4
      have Hs2 := Lib.hid hs
      clear q2 q3 q4 hcl hd2 h2 h3 h4 hs
      go_wp2
      refine ⟨rfl, _, rfl, g, fun v h => Hq2.out v (by simpa [upd] using h), fun v h => by simpa [upd] using h.symm, fun v h => ?_, by simpa [upd] using Hs2.out⟩
      have : ρ 4 = some v := by simpa [upd] using h
      rw [H4.out] at this; cases this
    case e4 =>
      intro o ho ρ W2 h hcl h4 hd2 af haf
      obtain rfl := Option.some.inj ho
      replace haf : af = fillD _ ρ [3] _ := haf
      obtain ⟨v3, h3⟩ := Option.isSome_iff_exists.1 (hd2 3 (by show _ ∈ [3]; simp))
      obtain ⟨g, q2, q3, q4, hs⟩ := h
      obtain rfl := q3 v3 h3
      simp only [fillD, h3, Option.getD_some, dstAt, List.getElem?_cons_succ, List.getElem?_cons_zero, Option.bind_some, Option.bind_none, Act.put, List.setIfInBounds_toArray, List.set_cons_zero, List.set_cons_succ] at haf
      subst haf
      rw [h4] at hs
      have hs : St K W2 (blk (w.heap.size + 1) (.cells #[.int .i64 0, .int .i64 0, .int .i64 0, .int .i64 0, .int .i64 0, .int .i64 0, .int .u64 0, .slice none 0 0] 110) :: _) := hs
      have k0 := hs.k0
      have f0 := hs.f0
      have hs := (((((((hs.setL 0 (.int .i64 d.th)).setL 1 (.int .i64 d.sn)).setL 2 (.int .i64 d.no)).setL 3 (.int .i64 d.ch)).setL 4 (.int .i64 d.re)).setL 5 (.int .i64 d.fa)).setL 6 (.int .u64 d.cl)).setL 7 (.slice (some ⟨g, 0, none⟩) L.length L.length)
      simp only [List.set_cons_zero, List.set_cons_succ] at hs
      have Hq2 := Lib.hid q2
      have Hq3 := Lib.hid q3
      have H3 := Lib.hid h3
      have Hs2 := Lib.hid hs
      clear q2 q3 q4 hcl hd2 h3 h4 hs
      go_wp2
      refine ⟨rfl, undef, rfl, g, fun v h => Hq2.out v (by simpa [upd] using h), fun v h => Hq3.out v (by simpa [upd] using h), fun v h => by simp [upd, H3.out], by simpa [upd] using Hs2.out⟩
  case hQ =>
    intro ρ W2 h hall
    obtain ⟨v2, h2⟩ := Option.isSome_iff_exists.1 (hall 2 (by simp))
    obtain ⟨v3, h3⟩ := Option.isSome_iff_exists.1 (hall 3 (by simp))
    obtain ⟨v4, h4⟩ := Option.isSome_iff_exists.1 (hall 4 (by simp))
    obtain ⟨g, q2, q3, q4, hs⟩ := h
    rw [h2, h4] at hs
    have hs : St K W2 (blk (w.heap.size + 1) (.cells #[.int .i64 (d).th, .int .i64 (d).sn, .int .i64 (d).no, .int .i64 (d).ch, .int .i64 (d).re, .int .i64 (d).fa, .int .u64 (d).cl, .slice (some ⟨g, 0, none⟩) L.length L.length] 110) :: blk g (.cells (flat L).toArray 41) :: _ :: memC bm bc L acc :: F) := hs
    obtain rfl := q2 v2 h2
    obtain rfl := q3 v3 h3
    simp only [fillD, h2, h3, h4, Option.getD_some, dstAt, List.getElem?_cons_succ, List.getElem?_cons_zero, Option.bind_some, Option.bind_none, Act.put, List.setIfInBounds_toArray, List.set_cons_zero, List.set_cons_succ]
    clear q2 q3 q4 h2 h3 h4 hall
    obtain ⟨z1, z2, z3⟩ := hs.b1.freeze
    have Hz1 := Lib.hid z1
    have Hz2 := Lib.hid z2
    clear z1 z2
    go_wp2
    refine bodyPost_ret (kview_res _ _ (w.heap.size + 1) _ _ _ _ _ _ _ _ rfl z3.k0) rfl ⟨g, rfl, Hz1.out, Hz2.out, z3.tail.tail⟩
end
end Go.Proofs.Ytfgjanponijkhaa
