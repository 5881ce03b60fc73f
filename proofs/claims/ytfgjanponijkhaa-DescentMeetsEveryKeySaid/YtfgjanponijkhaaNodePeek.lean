/- Peek (package node): a node's page without an access. -/
import Derived.Test.YtfgjanponijkhaaNode9
import Derived.Test.YtfgjanponijkhaaNodeLaw
import Derived.Test.YtfgjanponijkhaaNodePg
namespace Go.Proofs.Ytfgjanponijkhaa
open Go.RowKit
set_option maxRecDepth 100000

/-- What Peek answers. -/
def slOf (d : Cfg) (id : Int) (L : List Cel) (i : Nat) : Sl := ⟨(getC L (d.slot id i)).k, (getC L (d.slot id i)).n⟩
def pgOf (d : Cfg) (id : Int) (L : List Cel) : Pg :=
  ⟨wrap64 (getC L (d.node id 1)).m, (List.range (leftOf d (getC L (d.node id 1)))).map (slOf d id L), (getC L (d.node id 2)).k, decide ((getC L (d.node id 2)).m = 1), (getC L (d.node id 3)).n⟩
theorem pgOf_at {d : Cfg} {id : Int} {L : List Cel} {pg : Pg} (h : PageAt d id L pg) : pgOf d id L = pg := by
  have hl : leftOf d (getC L (d.node id 1)) = pg.sl.length := by
    have := h.le
    unfold leftOf
    rw [h.n, Int.min_eq_left this]
    omega
  obtain ⟨lev, sl, hi, la, ri⟩ := pg
  have h1 := h.lev; have h2 := h.hi; have h3 := h.la; have h4 := h.ri
  simp only at h1 h2 h3 h4 hl
  unfold pgOf
  rw [h1, h2, h3, h4, hl]
  congr 1
  apply List.ext_getElem?
  intro i
  rw [List.getElem?_map]
  rcases Nat.lt_or_ge i sl.length with hi | hi
  · rw [List.getElem?_range hi]
    obtain ⟨e1, e2⟩ := h.sl i sl[i] (List.getElem?_eq_getElem hi)
    rw [List.getElem?_eq_getElem hi]
    simp only [Option.map_some, slOf, e1, e2]
  · rw [List.getElem?_eq_none (by simpa using hi), List.getElem?_eq_none hi]; rfl

def celO (o : Option Value) (c : Cel) : Array Value := match o with
  | some _ => #[.int .u64 c.n, .string c.k, .int .u64 c.m]
  | none => #[.int .u64 0, .string ⟨#[]⟩, .int .u64 0]
/-- While head and high are fetched. -/
def PkR (K : Know) (REST : List Comp) (c1 c2 : Cel) (ρ : Nat → Option Value) (W : World) : Prop :=
  ∃ b7 b8 : Nat, (∀ v, ρ 10 = some v → v = .pointer (some ⟨b7, 0, none⟩)) ∧ (∀ v, ρ 11 = some v → v = .pointer (some ⟨b8, 0, none⟩)) ∧
    St K W (optC (ρ 10) (blk b7 (.cells (celO (ρ 12) c1) 41)) :: optC (ρ 11) (blk b8 (.cells (celO (ρ 13) c2) 41)) :: REST)
section
variable {K : Know} {W : World} {REST : List Comp} {c1 c2 : Cel} {ρ : Nat → Option Value} {v10 v11 : Value}
theorem PkR.start (hs : St K W REST) : PkR K REST c1 c2 (fun _ => none) W :=
  ⟨0, 0, fun v h => (by cases h), fun v h => (by cases h), hs.empty.empty⟩
theorem PkR.same {W' : World} (h : PkR K REST c1 c2 ρ W) (hb : Below W.heap.size W W') : PkR K REST c1 c2 ρ W' := by
  obtain ⟨b7, b8, e1, e2, hs⟩ := h
  exact ⟨b7, b8, e1, e2, hs.same hb⟩
theorem PkR.rest (h : PkR K REST c1 c2 ρ W) : St K W REST := by
  obtain ⟨b7, b8, e1, e2, hs⟩ := h
  exact hs.tail.tail
theorem PkR.e10 (h : PkR K REST c1 c2 ρ W) (h10 : ρ 10 = none) (h12 : ρ 12 = none) : PkR K REST c1 c2 (upd ρ 10 (.pointer (some ⟨W.heap.size, 0, none⟩))) (W.alloc (.cells #[.int .u64 0, .string ⟨#[]⟩, .int .u64 0] 41)) := by
  obtain ⟨b7, b8, e1, e2, hs⟩ := h
  rw [h10] at hs
  refine ⟨W.heap.size, b8, fun v hv => (Option.some.inj hv).symm, e2, ?_⟩
  show St K _ (blk _ (.cells (celO (ρ 12) c1) _) :: optC (ρ 11) _ :: REST)
  rw [h12]
  exact hs.tail.made _
theorem PkR.e11 (h : PkR K REST c1 c2 ρ W) (h11 : ρ 11 = none) (h13 : ρ 13 = none) : PkR K REST c1 c2 (upd ρ 11 (.pointer (some ⟨W.heap.size, 0, none⟩))) (W.alloc (.cells #[.int .u64 0, .string ⟨#[]⟩, .int .u64 0] 41)) := by
  obtain ⟨b7, b8, e1, e2, hs⟩ := h
  rw [h11] at hs
  refine ⟨b7, W.heap.size, e1, fun v hv => (Option.some.inj hv).symm, ?_⟩
  show St K _ (optC (ρ 10) _ :: blk _ (.cells (celO (ρ 13) c2) _) :: REST)
  rw [h13]
  exact (hs.b1.tail.made _).b1
theorem PkR.e12 (h : PkR K REST c1 c2 ρ W) (h10 : ρ 10 = some v10) (h12 : ρ 12 = none) : ∃ (b7 : Nat) (R' : List Comp), v10 = .pointer (some ⟨b7, 0, none⟩) ∧ St K W (blk b7 (.cells #[.int .u64 0, .string ⟨#[]⟩, .int .u64 0] 41) :: R') ∧
    ∀ v W', St K W' (blk b7 (.cells #[.int .u64 c1.n, .string c1.k, .int .u64 c1.m] 41) :: R') → PkR K REST c1 c2 (upd ρ 12 v) W' := by
  obtain ⟨b7, b8, e1, e2, hs⟩ := h
  rw [h10, h12] at hs
  refine ⟨b7, _, e1 v10 h10, hs, fun v W' hs' => ⟨b7, b8, e1, e2, ?_⟩⟩
  show St K W' (optC (ρ 10) _ :: optC (ρ 11) _ :: REST)
  rw [h10]
  exact hs'
theorem PkR.e13 (h : PkR K REST c1 c2 ρ W) (h11 : ρ 11 = some v11) (h13 : ρ 13 = none) : ∃ (b8 : Nat) (R' : List Comp), v11 = .pointer (some ⟨b8, 0, none⟩) ∧ St K W (blk b8 (.cells #[.int .u64 0, .string ⟨#[]⟩, .int .u64 0] 41) :: R') ∧
    ∀ v W', St K W' (blk b8 (.cells #[.int .u64 c2.n, .string c2.k, .int .u64 c2.m] 41) :: R') → PkR K REST c1 c2 (upd ρ 13 v) W' := by
  obtain ⟨b7, b8, e1, e2, hs⟩ := h
  rw [h11, h13] at hs
  refine ⟨b8, _, e2 v11 h11, hs.b1, fun v W' hs' => ⟨b7, b8, e1, e2, ?_⟩⟩
  show St K W' (optC (ρ 10) _ :: optC (ρ 11) _ :: REST)
  rw [h11]
  exact hs'.b1
theorem PkR.last (h : PkR K REST c1 c2 ρ W) (hall : ∀ e, e ∈ [10, 11, 12, 13] → (ρ e).isSome = true) : ∃ b7 b8 : Nat, ρ 10 = some (.pointer (some ⟨b7, 0, none⟩)) ∧ ρ 11 = some (.pointer (some ⟨b8, 0, none⟩)) ∧ (∃ v, ρ 12 = some v) ∧ (∃ v, ρ 13 = some v) ∧
    St K W (blk b7 (.cells #[.int .u64 c1.n, .string c1.k, .int .u64 c1.m] 41) :: blk b8 (.cells #[.int .u64 c2.n, .string c2.k, .int .u64 c2.m] 41) :: REST) := by
  obtain ⟨b7, b8, e1, e2, hs⟩ := h
  have g : ∀ e, e ∈ [10, 11, 12, 13] → ∃ v, ρ e = some v := fun e he => Option.isSome_iff_exists.1 (hall e he)
  obtain ⟨v10, h10⟩ := g 10 (by simp)
  obtain ⟨v11, h11⟩ := g 11 (by simp)
  obtain ⟨v12, h12⟩ := g 12 (by simp)
  obtain ⟨v13, h13⟩ := g 13 (by simp)
  rw [h10, h11, h12, h13] at hs
  exact ⟨b7, b8, by rw [h10, e1 v10 h10], by rw [h11, e2 v11 h11], ⟨v12, h12⟩, ⟨v13, h13⟩, hs⟩
end

theorem peek_res (tmps : Array Value) (w : World) (b : Nat) (v0 v1 v2 v3 v4 : Value) (hp : tmps[6]? = some (.pointer (some ⟨b, 0, none⟩))) (hk : ∀ k, w.cell? ⟨b, k, none⟩ = (#[v0, v1, v2, v3, v4] : Array Value)[k]?) :
    (results Try.f51 tmps).run Try.prog w = .ok (.agg #[v0, v1, v2, v3, v4]) w := by
  simp [results, Try.results51, go_sem, hp, hk]

section
variable {K : Know} {w : World} {F : List Comp} {bm bc acc : Nat} {L : List Cel} {d : Cfg} {id : Int}
set_option maxHeartbeats 8000000 in
theorem peek_st2 (hd : d.Ok) (h1 : 1 ≤ id) (h2 : id ≤ d.no) (hL : CelsOk L) (hs : St K w (memC bm bc L acc :: F)) :
    Calls Try.prog 51 #[.agg #[.int .i64 d.th, .int .i64 d.sn, .int .i64 d.no, .int .i64 d.ch, .int .i64 d.re, .int .i64 d.fa, .int .u64 d.cl], .pointer (some ⟨bm, 0, none⟩), .int .u64 id] w fun e w' => ∃ va, e = .returned (.agg #[.int .i64 ((pgOf d id L)).lev, va, .string ((pgOf d id L)).hi, .bool ((pgOf d id L)).la, .int .u64 ((pgOf d id L)).ri]) ∧
      St K w' (rowC va 132 2 (pgOf d id L).sl.length (slRow (pgOf d id L).sl) :: memC bm bc L acc :: F) := by
  have f1 := hd.fa1
  have f2 := hd.fa2
  have hno := hd.no2
  have hid : 0 ≤ id ∧ id < 18446744073709551616 := by omega
  have hpos := (node_in hd h1 h2 (k := 0) (by omega) (by omega)).2.1
  obtain ⟨j0, hj0⟩ : ∃ j, j = d.node id 0 := ⟨_, rfl⟩
  obtain ⟨j1, hj1⟩ : ∃ j, j = d.node id 1 := ⟨_, rfl⟩
  obtain ⟨j2, hj2⟩ : ∃ j, j = d.node id 2 := ⟨_, rfl⟩
  obtain ⟨j3, hj3⟩ : ∃ j, j = d.node id 3 := ⟨_, rfl⟩
  obtain ⟨js, hjs⟩ : ∃ j : Nat → Int, j = fun (i : Nat) => d.slot id (i : Int) := ⟨_, rfl⟩
  obtain ⟨cf, hcf⟩ : ∃ cf : Int → Cel, cf = getC L := ⟨_, rfl⟩
  have hc1 : 0 ≤ (cf j1).n ∧ (cf j1).n < 18446744073709551616 := by rw [hcf]; exact hL _
  obtain ⟨m, hm⟩ : ∃ m, m = leftOf d (cf j1) := ⟨_, rfl⟩
  have hmm : (m : Int) = min (cf j1).n d.fa := by rw [hm]; unfold leftOf; omega
  have epg : pgOf d id L = ⟨wrap64 (cf j1).m, (List.range m).map (fun i => ⟨(cf (js i)).k, (cf (js i)).n⟩), (cf j2).k, decide ((cf j2).m = 1), (cf j3).n⟩ := by
    rw [hm, hcf, hj1, hj2, hj3, hjs]; rfl
  rw [epg]
  have Ql := Lib.hid (fun w => latch_any d hd id hid.1 hid.2 w)
  have Q1 := Lib.hid (fun w => head_any d hd id hid.1 hid.2 w)
  have Q2 := Lib.hid (fun w => high_any d hd id hid.1 hid.2 w)
  have Q3 := Lib.hid (fun w => right_any d hd id hid.1 hid.2 w)
  have qs := fun (i : Nat) w => slot_any d hd id (i : Int) hid.1 hid.2 w
  have es : ∀ i : Nat, d.slot id (i : Int) = js i := fun i => by rw [hjs]
  simp only [es] at qs
  have Qs := Lib.hid qs
  have qp := fun wz (hM : MemAt wz bm bc L acc) (i : Int) => peek_any wz bm bc L acc i hM
  rw [← hcf] at qp
  have Qp := Lib.hid qp
  have Qc := Lib.hid (fun w => config_any d w)
  simp only [← hj0, ← hj1, ← hj2, ← hj3] at Ql Q1 Q2 Q3 hpos
  clear hj0 hj1 hj2 hj3 hjs hcf hm epg hL es qs qp h1 h2 hno
  have hs := (hs.made (.cells #[.int .i64 d.th, .int .i64 d.sn, .int .i64 d.no, .int .i64 d.ch, .int .i64 d.re, .int .i64 d.fa, .int .u64 d.cl] 30)).made (.cells #[.int .i64 0, .slice none 0 0, .string ⟨#[]⟩, .bool false, .int .u64 0] 25)
  rw [World.size_alloc] at hs
  go_enter Try.func51, Try.ntmps51
  go_wp2_with fail
  have hs0 := hs
  refine (calls_same hs (Ql.out _)).mono ?_
  clear hs hs0
  generalize w.heap.size = b0
  rintro e w1 ⟨rfl, hs⟩
  go_upto_region 3 with (fail)
  go_cut [7, 8] (fun v7 v8 wx => ∃ b7 b8 : Nat, v7 = .pointer (some ⟨b7, 0, none⟩) ∧ v8 = .pointer (some ⟨b8, 0, none⟩) ∧ St K wx (blk b7 (.cells #[.int .u64 (cf j1).n, .string (cf j1).k, .int .u64 (cf j1).m] 41) :: blk b8 (.cells #[.int .u64 (cf j2).n, .string (cf j2).k, .int .u64 (cf j2).m] 41) :: blk (b0 + 1) (.cells #[.int .i64 0, .slice none 0 0, .string ⟨#[]⟩, .bool false, .int .u64 0] 25) :: blk b0 (.cells #[.int .i64 d.th, .int .i64 d.sn, .int .i64 d.no, .int .i64 d.ch, .int .i64 d.re, .int .i64 d.fa, .int .u64 d.cl] 30) :: memC bm bc L acc :: F))
  case first =>
    as_aux_lemma =>
    have Hs := Lib.hid hs
    clear hs
    refine region_effects [false, false, false, false, false, false, false, false, false, false, true, true, true, true] [10, 11, 12, 13] (fun | 12 => [10] | 13 => [11] | _ => [])
      (PkR K (blk (b0 + 1) (.cells #[.int .i64 0, .slice none 0 0, .string ⟨#[]⟩, .bool false, .int .u64 0] 25) :: blk b0 (.cells #[.int .i64 d.th, .int .i64 d.sn, .int .i64 d.no, .int .i64 d.ch, .int .i64 d.re, .int .i64 d.fa, .int .u64 d.cl] 30) :: memC bm bc L acc :: F) (cf j1) (cf j2))
      (fun W => St K W (blk (b0 + 1) (.cells #[.int .i64 0, .slice none 0 0, .string ⟨#[]⟩, .bool false, .int .u64 0] 25) :: blk b0 (.cells #[.int .i64 d.th, .int .i64 d.sn, .int .i64 d.no, .int .i64 d.ch, .int .i64 d.re, .int .i64 d.fa, .int .u64 d.cl] 30) :: memC bm bc L acc :: F)) ?aS (by kernel_rfl) ?hB ?H ?haS ?h0 ?hI ?hR ?hE ?hQ
    case hB => as_aux_lemma => kernel_rfl
    case H =>
      intro W2 hs
      have kl := hs.k1
      have Qy := Lib.hid (fun wz (hy : ∃ x : Ext, wz = over W2 x) (i : Int) => Qp.out wz ((hs.same (Pure.below hy)).mem2) i)
      simp only [withM]
      repeat (go_big_quiet_step (first | (go_at_call 118; exact pure_of (Q1.out _)) | (go_at_call 119; exact pure_of (Q2.out _)) | (go_at_call 50; exact pure_of (Qy.out _ ⟨_, rfl⟩ _))))
      refine wpQuiet_nil ?_
      rfl
    case haS => rfl
    case h0 => exact PkR.start Hs.out
    case hI => exact fun ρ W2 h => h.rest
    case hR => exact fun ρ W2 W3 h hb => h.same hb
    case hE =>
      refine ⟨?e10, ?e11, ?e12, ?e13, trivial⟩
      case e10 =>
        intro o ho ρ W2 h hcl h10 hd af haf
        obtain rfl := Option.some.inj ho
        replace haf : af = fillD _ ρ [] _ := haf
        have h12 : ρ 12 = none := hcl.none (by simp) (show 10 ∈ [10] by simp) h10
        simp only [fillD] at haf
        subst haf
        go_wp2
        exact ⟨rfl, _, rfl, h.e10 h10 h12⟩
      case e11 =>
        intro o ho ρ W2 h hcl h11 hd af haf
        obtain rfl := Option.some.inj ho
        replace haf : af = fillD _ ρ [] _ := haf
        have h13 : ρ 13 = none := hcl.none (by simp) (show 11 ∈ [11] by simp) h11
        simp only [fillD] at haf
        subst haf
        go_wp2
        exact ⟨rfl, _, rfl, h.e11 h11 h13⟩
      case e12 =>
        intro o ho ρ W2 h hcl h12 hd af haf
        obtain rfl := Option.some.inj ho
        replace haf : af = fillD _ ρ [10] _ := haf
        obtain ⟨v10, h10⟩ := Option.isSome_iff_exists.1 (hd 10 (by show _ ∈ [10]; simp))
        obtain ⟨b7, R', rfl, hs, hnext⟩ := h.e12 h10 h12
        simp only [fillD, h10, Option.getD_some, dstAt, List.getElem?_cons_succ, List.getElem?_cons_zero, Option.bind_some, Act.put, List.setIfInBounds_toArray, List.set_cons_zero, List.set_cons_succ] at haf
        subst haf
        have k0 := hs.k0
        have f0 := hs.f0
        have hs := ((hs.setL 0 (.int .u64 (cf j1).n)).setL 1 (.string (cf j1).k)).setL 2 (.int .u64 (cf j1).m)
        go_wp2
        exact ⟨rfl, undef, rfl, hnext _ _ hs⟩
      case e13 =>
        intro o ho ρ W2 h hcl h13 hd af haf
        obtain rfl := Option.some.inj ho
        replace haf : af = fillD _ ρ [11] _ := haf
        obtain ⟨v11, h11⟩ := Option.isSome_iff_exists.1 (hd 11 (by show _ ∈ [11]; simp))
        obtain ⟨b8, R', rfl, hs, hnext⟩ := h.e13 h11 h13
        simp only [fillD, h11, Option.getD_some, dstAt, List.getElem?_cons_succ, List.getElem?_cons_zero, Option.bind_some, Act.put, List.setIfInBounds_toArray, List.set_cons_zero, List.set_cons_succ] at haf
        subst haf
        have k0 := hs.k0
        have f0 := hs.f0
        have hs := ((hs.setL 0 (.int .u64 (cf j2).n)).setL 1 (.string (cf j2).k)).setL 2 (.int .u64 (cf j2).m)
        go_wp2
        exact ⟨rfl, undef, rfl, hnext _ _ hs⟩
    case hQ =>
      intro ρ W2 h hall
      obtain ⟨b7, b8, h10, h11, ⟨v12, h12⟩, ⟨v13, h13⟩, hs⟩ := h.last hall
      simp only [fillD, h10, h11, h12, h13, Option.getD_some, dstAt, List.getElem?_cons_succ, List.getElem?_cons_zero, Option.bind_some, Act.put, List.setIfInBounds_toArray, List.set_cons_zero, List.set_cons_succ, Option.bind_none]
      go_wp2
      go_meet
      exact ⟨_, _, rfl, rfl, hs⟩
  case rest =>
    clear hs
    obtain ⟨b7, b8, rfl, rfl, hs⟩ := hcut
    go_upto_region 4 with (fail)
    go_cut [9] (fun v9 wx => ∃ b9 : Nat, v9 = .pointer (some ⟨b9, 0, none⟩) ∧ St K wx (blk b9 (.cells #[.int .i64 (wrap64 (cf j1).m), .slice none 0 0, .string (cf j2).k, .bool (decide ((cf j2).m = 1)), .int .u64 (cf j3).n] 25) :: blk b7 (.cells #[.int .u64 (cf j1).n, .string (cf j1).k, .int .u64 (cf j1).m] 41) :: blk b8 (.cells #[.int .u64 (cf j2).n, .string (cf j2).k, .int .u64 (cf j2).m] 41) :: blk (b0 + 1) (.cells #[.int .i64 0, .slice none 0 0, .string ⟨#[]⟩, .bool false, .int .u64 0] 25) :: blk b0 (.cells #[.int .i64 d.th, .int .i64 d.sn, .int .i64 d.no, .int .i64 d.ch, .int .i64 d.re, .int .i64 d.fa, .int .u64 d.cl] 30) :: memC bm bc L acc :: F))
    case first =>
      as_aux_lemma =>
      have Hs := Lib.hid hs
      clear hs
      refine region_alloc 14 ?_ 9 (.cells #[.int .i64 0, .slice none 0 0, .string ⟨#[]⟩, .bool false, .int .u64 0] 25) rfl (by as_aux_lemma => kernel_rfl) rfl (fun _ _ => by kernel_rfl) ?_ ?_ ?_
      case refine_2 =>
        intro W2 hb
        have hs := Hs.out.same hb
        have k7 := hs.k0
        have k8 := hs.k1
        have kl := hs.b3.k0
        have Qy := Lib.hid (fun wz (hy : ∃ x : Ext, wz = over W2 x) (i : Int) => Qp.out wz ((hs.same (Pure.below hy)).b4.mem) i)
        clear hs
        simp only [List.take_succ_cons, List.take_zero, List.drop_succ_cons, List.drop_zero]
        repeat (go_big_quiet_step (first | (go_at_call 120; exact pure_of (Q3.out _)) | (go_at_call 50; exact pure_of (Qy.out _ ⟨_, rfl⟩ _))))
        refine wpQuiet_nil ?_
        rfl
      case refine_3 =>
        intro w5 hb5
        have hs := (Hs.out.same hb5).made (.cells #[.int .i64 (wrap64 (cf j1).m), .slice none 0 0, .string (cf j2).k, .bool (decide ((cf j2).m = 1)), .int .u64 (cf j3).n] 25)
        go_wp2
        go_meet
        exact ⟨_, rfl, hs⟩
      case refine_4 =>
        intro w0 w5 hb0 hb5
        have hs := ((Hs.out.same hb0).made (.cells #[.int .i64 0, .slice none 0 0, .string ⟨#[]⟩, .bool false, .int .u64 0] 25)).same (by rw [World.size_alloc]; exact hb5)
        have kx := hs.k0
        have fx := hs.f0
        have hs := ((((hs.setL 0 (.int .i64 (wrap64 (cf j1).m))).setL 1 (.slice none 0 0)).setL 2 (.string (cf j2).k)).setL 3 (.bool (decide ((cf j2).m = 1)))).setL 4 (.int .u64 (cf j3).n)
        go_wp2
        go_meet
        exact ⟨_, rfl, hs⟩
    case rest =>
      clear hs
      obtain ⟨b9, rfl, hs⟩ := hcut
      have hs := (hs.row_nil (T := 132) (size := 2)).b1
      obtain ⟨iv, hiv0, hiv1, hiv2, hiv3⟩ := info_parts infoSlot
      have hm32 : m ≤ 32 := by omega
      go_wp2
      go_loopw [10] (fun v10 wr => ∃ (k : Nat) (va : Value), k ≤ m ∧ v10 = .int .i64 k ∧ St K wr (blk b9 (.cells #[.int .i64 (wrap64 (cf j1).m), va, .string (cf j2).k, .bool (decide ((cf j2).m = 1)), .int .u64 (cf j3).n] 25) :: rowC va 132 2 k (slRow ((List.range k).map (fun i => (⟨(cf (js i)).k, (cf (js i)).n⟩ : Sl)))) :: blk b7 (.cells #[.int .u64 (cf j1).n, .string (cf j1).k, .int .u64 (cf j1).m] 41) :: memC bm bc L acc :: blk b0 (.cells #[.int .i64 d.th, .int .i64 d.sn, .int .i64 d.no, .int .i64 d.ch, .int .i64 d.re, .int .i64 d.fa, .int .u64 d.cl] 30) :: blk (b0 + 1) (.cells #[.int .i64 0, .slice none 0 0, .string ⟨#[]⟩, .bool false, .int .u64 0] 25) :: F)) (fun v _ => m - (intOf v).toNat)
      case atStart => exact ⟨0, _, by omega, rfl, hs.b3.tail.b3.b4.b5.b5.b5.b5⟩
      case round =>
        clear hs
        obtain ⟨k, va, hk, rfl, hs⟩ := hrel
        obtain ⟨av, cv, rfl, _, _⟩ := hs.b1.row_read
        have k7 := hs.k2
        have kl := hs.b4.k0
        by_cases hlt : k < m
        · have hkf : (k : Int) < d.fa := by omega
          have hkn : (k : Int) < (cf j1).n := by omega
          have hnext : slRow ((List.range (k + 1)).map (fun i => (⟨(cf (js i)).k, (cf (js i)).n⟩ : Sl))) = slRow ((List.range k).map (fun i => (⟨(cf (js i)).k, (cf (js i)).n⟩ : Sl))) ++ [.string (cf (js k)).k, .int .u64 (cf (js k)).n] := by
            rw [List.range_succ, List.map_append]
            unfold slRow
            rw [List.flatMap_append]
            rfl
          have Hx := Lib.hid hnext
          generalize slRow ((List.range k).map (fun i => (⟨(cf (js i)).k, (cf (js i)).n⟩ : Sl))) = xs at *
          clear hnext
          go_wp2_with fail
          refine (calls_same hs (Qc.out _)).mono ?_
          clear hs k7 kl
          rintro e w2 ⟨rfl, hs⟩
          have k7 := hs.k2
          have kl := hs.b4.k0
          go_wp2_with fail
          refine (calls_same hs (Qs.out k _)).mono ?_
          clear hs k7 kl
          rintro e w3 ⟨rfl, hs⟩
          go_wp2_with fail
          refine (calls_same hs (Qp.out _ hs.b3.mem _)).mono ?_
          clear hs
          rintro e w4 ⟨rfl, hs⟩
          have kb := hs.k0
          have hq := fun (x : Obj) => (hs.made x).k1
          have hs := (hs.made (.cells #[.int .u64 (cf (js k)).n, .string (cf (js k)).k, .int .u64 (cf (js k)).m] 41)).made (.cells [.string (cf (js k)).k, .int .u64 (cf (js k)).n].toArray 132)
          have hkk := hs.k0
          have hq2 := hs.k2
          rw [World.size_alloc] at hs hkk
          have Hw := Lib.hid (lit_cells hkk)
          have Hr := Lib.hid hs.b3
          clear hs hkk
          go_wp2_with (at_builtin; refine append_row_st _ _ 22 132 _ k 1 1 2 24 xs [.string (cf (js k)).k, .int .u64 (cf (js k)).n] (.agg #[.string ⟨#[]⟩, .int .u64 0]) iv (some ⟨w4.heap.size + 1, 0, none⟩) Hr.out rfl rfl Try.underlying22 hiv0 hiv1 hiv2 hiv3 rfl (by decide) rfl rfl rfl (fun e => by cases e) Hw.out (fun u hu => by simp at hu; rcases hu with rfl | rfl <;> rfl) (by omega) (by decide) ?_)
          clear Hr Hw kb hq hq2
          intro v' w6 hs
          obtain ⟨av2, cv2, rfl, _, _⟩ := hs.row_read
          rw [← Hx.out] at hs
          have hs := hs.b3
          have kb := hs.k0
          have fb := hs.f0
          have hs := hs.setL 1 (.slice av2 (k + 1) cv2)
          simp only [List.set_cons_zero, List.set_cons_succ] at hs
          have hs := hs.b2.tail.b2.tail
          go_wp2
          go_roundw
          case rel => exact ⟨k + 1, _, by omega, by go_num, hs⟩
          case measure => simp [intOf]; omega
        · obtain rfl : k = m := by omega
          have hxy : d.fa ≤ (k : Int) ∨ ((k : Int) < d.fa ∧ (cf j1).n ≤ (k : Int)) := by omega
          clear hmm hk hlt
          rcases hxy with hxy | ⟨hxy, hyx⟩
          all_goals
            go_wp2_with fail
            refine (calls_same hs (Qc.out _)).mono ?_
            clear hs k7 kl
            rintro e w2 ⟨rfl, hs⟩
            have k7 := hs.k2
            have hs := hs.b5
            have k6 := hs.k0
            have f6 := hs.f0
            have k9 := hs.k1
            have hs := ((((hs.setL 0 (.int .i64 (wrap64 (cf j1).m))).setL 1 (.slice av k cv)).setL 2 (.string (cf j2).k)).setL 3 (.bool (decide ((cf j2).m = 1)))).setL 4 (.int .u64 (cf j3).n)
            simp only [List.set_cons_zero, List.set_cons_succ] at hs
            go_wp2
            refine bodyPost_ret (peek_res _ _ (b0 + 1) _ _ _ _ _ rfl hs.k0) rfl ⟨_, rfl, ?_⟩
            first | exact hs.tail.tail.drop1.b2.tail | (rw [List.length_map, List.length_range]; exact hs.tail.tail.drop1.b2.tail)

/-- A node that does not exist: an empty page. -/
theorem peekNone_st (hd : d.Ok) (hid : 0 ≤ id ∧ id < 18446744073709551616) (h0 : id < 1 ∨ d.no < id) (hs : St K w F) :
    Calls Try.prog 51 #[.agg #[.int .i64 d.th, .int .i64 d.sn, .int .i64 d.no, .int .i64 d.ch, .int .i64 d.re, .int .i64 d.fa, .int .u64 d.cl], .pointer (some ⟨bm, 0, none⟩), .int .u64 id] w fun e w' => e = .returned (.agg #[.int .i64 0, .slice none 0 0, .string ⟨#[]⟩, .bool false, .int .u64 0]) ∧ St K w' F := by
  have e : d.node id 0 = -1 := by unfold Cfg.node; rw [if_neg (by omega)]
  have ql := fun w => latch_any d hd id hid.1 hid.2 w
  rw [e] at ql
  have Ql := Lib.hid ql
  clear e ql
  have hs := (hs.made (.cells #[.int .i64 d.th, .int .i64 d.sn, .int .i64 d.no, .int .i64 d.ch, .int .i64 d.re, .int .i64 d.fa, .int .u64 d.cl] 30)).made (.cells #[.int .i64 0, .slice none 0 0, .string ⟨#[]⟩, .bool false, .int .u64 0] 25)
  rw [World.size_alloc] at hs
  go_enter Try.func51, Try.ntmps51
  go_wp2_with fail
  refine (calls_same hs (Ql.out _)).mono ?_
  clear hs
  generalize w.heap.size = b0
  rintro e w1 ⟨rfl, hs⟩
  have k0 := hs.k0
  have f0 := hs.f0
  have hs := ((((hs.setL 0 (.int .i64 0)).setL 1 (.slice none 0 0)).setL 2 (.string ⟨#[]⟩)).setL 3 (.bool false)).setL 4 (.int .u64 0)
  simp only [List.set_cons_zero, List.set_cons_succ] at hs
  go_wp2
  refine bodyPost_ret (peek_res _ _ (b0 + 1) _ _ _ _ _ rfl hs.k0) rfl ⟨rfl, hs.tail.tail⟩
end
end Go.Proofs.Ytfgjanponijkhaa
