/- The writer of a new node (package node: Fresh). -/
import Derived.Test.YtfgjanponijkhaaNodeHeld
import Derived.Test.YtfgjanponijkhaaNodePg
namespace Go.Proofs.Ytfgjanponijkhaa
open Go.RowKit
set_option maxRecDepth 100000

def frRow (o6 o11 : Option Value) (b6 : Nat) (a11 : Option Addr) (c11 n : Nat) (lit xs : List Value) : Comp := match o11 with
  | some _ => rowC (.slice a11 (1 + n) c11) 178 4 (1 + n) (lit ++ xs)
  | none => match o6 with
    | some _ => blk b6 (.cells lit.toArray 178)
    | none => emptyC
/-- While the list is put together: the first store, the others, both. -/
def FrR (K : Know) (REST : List Comp) (n : Nat) (lit xs : List Value) (ρ : Nat → Option Value) (W : World) : Prop :=
  ∃ (b6 : Nat) (a10 : Option Addr) (c10 : Nat) (a11 : Option Addr) (c11 : Nat), (∀ v, ρ 6 = some v → v = .slice (some ⟨b6, 0, none⟩) 1 1) ∧ (∀ v, ρ 10 = some v → v = .slice a10 n c10) ∧ (∀ v, ρ 11 = some v → v = .slice a11 (1 + n) c11) ∧ (∀ v, ρ 12 = some v → v = .slice a11 (1 + n) c11) ∧
    St K W (frRow (ρ 6) (ρ 11) b6 a11 c11 n lit xs :: optC (ρ 10) (rowC (.slice a10 n c10) 178 4 n xs) :: REST)

section
variable {K : Know} {w : World} {F : List Comp} {x : Pg} {ax : Option Addr} {cx : Nat} {d : Cfg} {id : Int}
set_option maxHeartbeats 8000000 in
theorem newFresh_st (hd : d.Ok) (hid : 0 ≤ id ∧ id < 18446744073709551616) (lx : 0 ≤ x.lev ∧ x.lev < 1000000) (hle : (x.sl.length : Int) ≤ d.fa) (hs : St K w (rowC (.slice ax (x).sl.length cx) 132 2 (x).sl.length (slRow (x).sl) :: F)) :
    Calls Try.prog 63 #[.agg #[.int .i64 d.th, .int .i64 d.sn, .int .i64 d.no, .int .i64 d.ch, .int .i64 d.re, .int .i64 d.fa, .int .u64 d.cl], .int .u64 id, .agg #[.int .i64 (x).lev, (.slice ax x.sl.length cx), .string (x).hi, .bool (x).la, .int .u64 (x).ri]] w fun e w' => ∃ (bw b g cap : Nat) (va : Value) (ps : List Pt), e = .returned (.pointer (some ⟨bw, 0, none⟩)) ∧ ps = ⟨d.node id 0, ⟨ltLock 0, ⟨#[]⟩, 0⟩⟩ :: pgPts d id x ∧
      St K w' (wrC b id (ltLock 0) x va g cap ps 0 :: rowC (.slice (some ⟨g, 0, none⟩) ps.length cap) 178 4 ps.length (ptRow ps) :: blk bw (.cells #[.pointer (some ⟨b, 0, none⟩)] 195) :: slC va x :: rowC (.slice ax (x).sl.length cx) 132 2 (x).sl.length (slRow (x).sl) :: F) := by
  have f2 := hd.fa2
  have qx := fun w F (hs : St K w (rowC (.slice ax (x).sl.length cx) 132 2 (x).sl.length (slRow (x).sl) :: F)) => cells_st (cap := cx) (pg := x) hd hid lx hle hs
  have lenx : (pgPts d id x).length = x.sl.length + 3 := by simp [pgPts, slPts_length]
  obtain ⟨px, hpx⟩ : ∃ px, px = pgPts d id x := ⟨_, rfl⟩
  rw [← hpx] at qx lenx ⊢
  have Qx := Lib.hid qx
  have nx : px.length ≤ 40 := by omega
  have Qa := Lib.hid (fun w => latch_any d hd id hid.1 hid.2 w)
  have Ql := Lib.hid (fun w => ltLock_any 0 (by decide) (by decide) w)
  obtain ⟨j0, hj0⟩ : ∃ j, j = d.node id 0 := ⟨_, rfl⟩
  obtain ⟨w0, hw0⟩ : ∃ z, z = ltLock 0 := ⟨_, rfl⟩
  simp only [← hj0] at Qa
  simp only [← hw0] at Ql
  rw [← hj0, ← hw0]
  obtain ⟨iv, hiv0, hiv1, hiv2, hiv3⟩ := info_parts infoPut
  clear qx hpx lenx hj0 hw0
  have hs := (hs.made (.cells #[.int .i64 d.th, .int .i64 d.sn, .int .i64 d.no, .int .i64 d.ch, .int .i64 d.re, .int .i64 d.fa, .int .u64 d.cl] 30)).made (.cells #[.int .i64 (x).lev, (.slice ax x.sl.length cx), .string (x).hi, .bool (x).la, .int .u64 (x).ri] 25)
  rw [World.size_alloc] at hs
  go_enter Try.func63, Try.ntmps63
  go_wp2_with fail
  refine (calls_id hs (Ql.out _)).mono ?_
  clear hs
  generalize w.heap.size = b0
  rintro e w1 ⟨rfl, hs⟩
  go_upto_region 2 with (fail)
  go_cut [8] (fun v8 wx => ∃ (a11 : Option Addr) (c11 : Nat), v8 = .slice a11 (1 + px.length) c11 ∧ St K wx (rowC (.slice a11 (1 + px.length) c11) 178 4 (1 + px.length) ([.int .i64 j0, .int .u64 w0, .string ⟨#[]⟩, .int .u64 0] ++ ptRow px) :: blk (b0 + 1) (.cells #[.int .i64 (x).lev, (.slice ax x.sl.length cx), .string (x).hi, .bool (x).la, .int .u64 (x).ri] 25) :: rowC (.slice ax (x).sl.length cx) 132 2 (x).sl.length (slRow (x).sl) :: F))
  case first =>
    as_aux_lemma =>
    have Hs := Lib.hid hs
    clear hs
    refine region_effects [false, false, false, false, false, false, true, false, false, false, true, true, true] [6, 10, 11, 12] (fun | 11 => [6, 10] | 12 => [11] | _ => [])
      (FrR K (blk (b0 + 1) (.cells #[.int .i64 (x).lev, (.slice ax x.sl.length cx), .string (x).hi, .bool (x).la, .int .u64 (x).ri] 25) :: blk b0 (.cells #[.int .i64 d.th, .int .i64 d.sn, .int .i64 d.no, .int .i64 d.ch, .int .i64 d.re, .int .i64 d.fa, .int .u64 d.cl] 30) :: rowC (.slice ax (x).sl.length cx) 132 2 (x).sl.length (slRow (x).sl) :: F) px.length [.int .i64 j0, .int .u64 w0, .string ⟨#[]⟩, .int .u64 0] (ptRow px))
      (fun W => St K W (blk (b0 + 1) (.cells #[.int .i64 (x).lev, (.slice ax x.sl.length cx), .string (x).hi, .bool (x).la, .int .u64 (x).ri] 25) :: blk b0 (.cells #[.int .i64 d.th, .int .i64 d.sn, .int .i64 d.no, .int .i64 d.ch, .int .i64 d.re, .int .i64 d.fa, .int .u64 d.cl] 30) :: rowC (.slice ax (x).sl.length cx) 132 2 (x).sl.length (slRow (x).sl) :: F)) ?aS (by kernel_rfl) ?hB ?H ?haS ?h0 ?hI ?hR ?hE ?hQ
    case hB => as_aux_lemma => kernel_rfl
    case H =>
      intro W2 hs
      have kp := hs.k0
      have kl := hs.k1
      clear hs
      simp only [withM]
      repeat (go_big_quiet_step ((go_at_call 115; exact pure_of (Qa.out _))))
      refine wpQuiet_nil ?_
      rfl
    case haS => rfl
    case h0 => exact ⟨0, none, 0, none, 0, fun v h => (by cases h), fun v h => (by cases h), fun v h => (by cases h), fun v h => (by cases h), Hs.out.empty.empty⟩
    case hI =>
      rintro ρ W2 ⟨b6, a10, c10, a11, c11, e1, e2, e3, e4, hs⟩
      exact hs.tail.tail
    case hR =>
      rintro ρ W2 W3 ⟨b6, a10, c10, a11, c11, e1, e2, e3, e4, hs⟩ hb
      exact ⟨b6, a10, c10, a11, c11, e1, e2, e3, e4, hs.same hb⟩
    case hE =>
      refine ⟨?e6, ?e10, ?e11, ?e12, trivial⟩
      case e6 =>
        intro o ho ρ W2 h hcl h6 hd2 af haf
        obtain rfl := Option.some.inj ho
        replace haf : af = fillD _ ρ [] _ := haf
        have h11 : ρ 11 = none := hcl.none (by simp) (show 6 ∈ [6, 10] by simp) h6
        obtain ⟨b6, a10, c10, a11, c11, e1, e2, e3, e4, hs⟩ := h
        rw [h6, h11] at hs
        simp only [fillD] at haf
        subst haf
        go_wp2
        refine ⟨rfl, _, rfl, W2.heap.size, a10, c10, a11, c11, fun v hv => (Option.some.inj hv).symm, e2, e3, e4, ?_⟩
        show St K _ (frRow _ (ρ 11) _ _ _ _ _ _ :: _)
        rw [h11]
        exact hs.tail.made _
      case e10 =>
        intro o ho ρ W2 h hcl h10 hd2 af haf
        obtain rfl := Option.some.inj ho
        replace haf : af = fillD _ ρ [] _ := haf
        obtain ⟨b6, a10, c10, a11, c11, e1, e2, e3, e4, hs⟩ := h
        rw [h10] at hs
        simp only [fillD] at haf
        subst haf
        go_wp2_with fail
        refine (Qx.out _ _ hs.b4).mono ?_
        rintro e W3 ⟨va, rfl, hs'⟩
        obtain ⟨a2, c2, rfl, _, _⟩ := hs'.row_read
        go_wp2
        exact ⟨rfl, _, rfl, b6, a2, c2, a11, c11, e1, fun v hv => (Option.some.inj hv).symm, e3, e4, hs'.b3.tail.b1.u4.b1⟩
      case e11 =>
        intro o ho ρ W2 h hcl h11 hd2 af haf
        obtain rfl := Option.some.inj ho
        replace haf : af = fillD _ ρ [6, 10] _ := haf
        obtain ⟨v6, h6⟩ := Option.isSome_iff_exists.1 (hd2 6 (by show _ ∈ [6, 10]; simp))
        obtain ⟨v10, h10⟩ := Option.isSome_iff_exists.1 (hd2 10 (by show _ ∈ [6, 10]; simp))
        have h12 : ρ 12 = none := hcl.none (by simp) (show 11 ∈ [11] by simp) h11
        obtain ⟨b6, a10, c10, a11, c11, e1, e2, e3, e4, hs⟩ := h
        obtain rfl := e1 v6 h6
        obtain rfl := e2 v10 h10
        rw [h6, h10, h11] at hs
        have hs : St K W2 (blk b6 (.cells ([.int .i64 j0, .int .u64 w0, .string ⟨#[]⟩, .int .u64 0]).toArray 178) :: rowC (.slice a10 px.length c10) 178 4 px.length (ptRow px) :: blk (b0 + 1) (.cells #[.int .i64 (x).lev, (.slice ax x.sl.length cx), .string (x).hi, .bool (x).la, .int .u64 (x).ri] 25) :: blk b0 (.cells #[.int .i64 d.th, .int .i64 d.sn, .int .i64 d.no, .int .i64 d.ch, .int .i64 d.re, .int .i64 d.fa, .int .u64 d.cl] 30) :: rowC (.slice ax (x).sl.length cx) 132 2 (x).sl.length (slRow (x).sl) :: F) := hs
        have hs := hs.row_lit (n := 1) (size := 4) rfl (by simp [maxLen])
        have hnw : ∀ j u, (ptRow px)[j]? = some u → ∃ g off, a10 = some ⟨g, off, none⟩ ∧ W2.cell? ⟨g, off + j, none⟩ = some u := fun j u hu => by
          obtain ⟨g, e, c⟩ := hs.b1.row_at hu
          exact ⟨g, 0, e, by rw [Nat.zero_add]; exact c⟩
        have hno : a10 = none → px.length = 0 := fun e => by
          cases px with
          | nil => rfl
          | cons p l =>
            obtain ⟨g, off, e2, _⟩ := hnw 0 _ (ptRow_at (p :: l) 0 p rfl).1
            rw [e] at e2; cases e2
        simp only [fillD, h6, h10, Option.getD_some, dstAt, List.getElem?_cons_succ, List.getElem?_cons_zero, Option.bind_some, Option.bind_none, Act.put, List.setIfInBounds_toArray, List.set_cons_zero, List.set_cons_succ] at haf
        subst haf
        refine append_row_st _ _ 175 178 _ 1 px.length c10 4 40 [.int .i64 j0, .int .u64 w0, .string ⟨#[]⟩, .int .u64 0] (ptRow px) (.agg #[.int .i64 0, .int .u64 0, .string ⟨#[]⟩, .int .u64 0]) iv a10 hs rfl rfl Try.underlying175 hiv0 hiv1 hiv2 hiv3 rfl (by decide) rfl rfl (ptRow_length px) hno hnw (ptRow_one px) (by omega) (by decide) ?_
        intro v' w' hs'
        obtain ⟨a2, c2, rfl, _, _⟩ := hs'.row_read
        refine ⟨rfl, _, rfl, b6, a10, c10, a2, c2, e1, e2, fun v hv => (Option.some.inj hv).symm, fun v hv => ?_, ?_⟩
        · have : ρ 12 = some v := hv
          rw [h12] at this; cases this
        · show St K w' (rowC _ _ _ _ _ :: optC (ρ 10) _ :: _)
          rw [h10]
          exact hs'
      case e12 =>
        intro o ho ρ W2 h hcl h12 hd2 af haf
        obtain rfl := Option.some.inj ho
        replace haf : af = fillD _ ρ [11] _ := haf
        obtain ⟨v11, h11⟩ := Option.isSome_iff_exists.1 (hd2 11 (by show _ ∈ [11]; simp))
        obtain ⟨b6, a10, c10, a11, c11, e1, e2, e3, e4, hs⟩ := h
        obtain rfl := e3 v11 h11
        simp only [fillD, h11, Option.getD_some, dstAt, List.getElem?_cons_succ, List.getElem?_cons_zero, Option.bind_some, Option.bind_none, Act.put, List.setIfInBounds_toArray, List.set_cons_zero, List.set_cons_succ] at haf
        subst haf
        go_wp2
        exact ⟨rfl, _, rfl, b6, a10, c10, a11, c11, e1, e2, e3, fun v hv => (Option.some.inj hv).symm, hs⟩
    case hQ =>
      intro ρ W2 h hall
      obtain ⟨v6, h6⟩ := Option.isSome_iff_exists.1 (hall 6 (by simp))
      obtain ⟨v10, h10⟩ := Option.isSome_iff_exists.1 (hall 10 (by simp))
      obtain ⟨v11, h11⟩ := Option.isSome_iff_exists.1 (hall 11 (by simp))
      obtain ⟨v12, h12⟩ := Option.isSome_iff_exists.1 (hall 12 (by simp))
      obtain ⟨b6, a10, c10, a11, c11, e1, e2, e3, e4, hs⟩ := h
      obtain rfl := e4 v12 h12
      rw [h11, h10] at hs
      simp only [fillD, h6, h10, h11, h12, Option.getD_some, dstAt, List.getElem?_cons_succ, List.getElem?_cons_zero, Option.bind_some, Option.bind_none, Act.put, List.setIfInBounds_toArray, List.set_cons_zero, List.set_cons_succ]
      clear h6 h10 h11 h12 e1 e2 e3 e4 hall
      go_wp2
      go_meet
      exact ⟨_, _, rfl, (hs.b1.tail).b2.tail⟩
  case rest =>
    clear hs
    obtain ⟨a11, c11, rfl, hs⟩ := hcut
    have e1 : [.int .i64 j0, .int .u64 w0, .string ⟨#[]⟩, .int .u64 0] ++ ptRow px = ptRow ((⟨j0, ⟨w0, ⟨#[]⟩, 0⟩⟩ : Pt) :: px) := rfl
    have e2 : ((⟨j0, ⟨w0, ⟨#[]⟩, 0⟩⟩ : Pt) :: px).length = 1 + px.length := by simp; omega
    rw [e1] at hs
    have kp := hs.k1
    go_wp2_with fail
    refine (clone_st (cap := cx) hs (hs.b2.row_slots (by omega))).mono ?_
    clear hs kp
    rintro e w2 ⟨va, rfl, hs⟩
    obtain ⟨a2, c2, rfl, _, _⟩ := hs.row_read
    go_wp2_with fail
    refine (newWriter_st hs).mono ?_
    clear hs
    rintro e w3 ⟨b, rfl, hs⟩
    have hs := hs.made (.cells #[.pointer (some ⟨b, 0, none⟩)] 195)
    obtain ⟨ps, hps⟩ : ∃ ps, ps = (⟨j0, ⟨w0, ⟨#[]⟩, 0⟩⟩ : Pt) :: px := ⟨_, rfl⟩
    rw [← hps] at e2
    have hps0 : ps[0]? = some ⟨j0, ⟨w0, ⟨#[]⟩, 0⟩⟩ := by rw [hps]; rfl
    have hpl : 0 < ps.length := by omega
    rw [← hps, ← e2] at hs
    obtain ⟨g, rfl, _⟩ := hs.b3.row_at (ptRow_at ps 0 _ hps0).1
    have hs := hs.b1
    rw [show wrStore b = (if 0 < ps.length then wrStore b else none) from (if_pos hpl).symm] at hs
    rw [← e2]
    have Hs := Lib.hid (hs.wr_close (k := 0) (g := g) (cap := c11) (ps := ps) (fun _ => by rw [Nat.zero_mul, Nat.sub_zero, Nat.sub_zero]))
    have Hps := Lib.hid hps
    clear hs hps0 hpl e1 e2 hps
    go_wp2
    go_ret
    exact ⟨_, b, g, c11, _, ps, rfl, Hps.out, (Hs.out.b4.tail).b3.b1⟩

theorem freshStep_st {word : Int} {pg : Pg} {b bw bm bc g cap k acc : Nat} {va : Value} {ps : List Pt} {L : List Cel} {p : Pt} (hk : ps[k]? = some p) (ha : acc ≤ 1000000000000)
    (hs : St K w (wrC b id word pg va g cap ps k :: memC bm bc L acc :: rowC (.slice (some ⟨g, 0, none⟩) ps.length cap) 178 4 ps.length (ptRow ps) :: blk bw (.cells #[.pointer (some ⟨b, 0, none⟩)] 195) :: F)) :
    Calls Try.prog 64 #[.pointer (some ⟨bw, 0, none⟩), .pointer (some ⟨bm, 0, none⟩)] w fun e w' => e = .returned (.bool (decide (k + 1 = ps.length))) ∧
      St K w' (wrC b id word pg va g cap ps (k + 1) :: memC bm bc (putC L p.i p.c) (acc + 1) :: rowC (.slice (some ⟨g, 0, none⟩) ps.length cap) 178 4 ps.length (ptRow ps) :: blk bw (.cells #[.pointer (some ⟨b, 0, none⟩)] 195) :: F) := by
  have Q := Lib.hid (wrRun_st hk ha hs)
  have kw := hs.b3.k0
  clear hs
  go_enter Try.func64, Try.ntmps64
  go_wp2_with fail
  refine (Q.out).mono ?_
  rintro e w1 ⟨rfl, hs⟩
  go_wp2
  go_ret
  exact ⟨rfl, hs⟩
end
end Go.Proofs.Ytfgjanponijkhaa
