
/- blinktreelaw12's awake. -/
import Derived.Test.YtlpdhhhgckpcfaaGreatLatVar
namespace Go.Proofs.YtlpdhhhgckpcfaaGreat
open Go.RowKit
set_option maxRecDepth 100000
/-- A Lock, the memory, the rest. -/
def LoOn (K : Know) (b bm bc : Nat) (d : Cfg) (L : List Cel) (key : ByteArray) (level : Int) (F : List Comp) (s : LkS) (acc : Nat) (w : World) : Prop :=
  ∃ C, LkRep d key level b s C ∧ St K w (C ++ memC bm bc L acc :: F)
section
variable {K : Know} {w : World} {F : List Comp} {b bm bc : Nat} {d : Cfg} {L L1 : List Cel} {t : List (List Nd)} {key : ByteArray} {level acc m : Nat} {s : LkS}
theorem lockStep_on {lv : Int} (hd : d.Ok) (hL : CelsOk L) (ha : acc ≤ 1000000000000) (hok : s.Ok d key lv L) (hh : s.h = hd0) (hs : LoOn K b bm bc d L key lv F s acc w) :
    Calls Tryz.prog 18 #[(.pointer (some ⟨b, 0, none⟩)), (.pointer (some ⟨bm, 0, none⟩))] w fun e w' => e = .returned (.bool (decide (4 ≤ (lokStep d key lv L s).1.pc))) ∧ LoOn K b bm bc d (lokStep d key lv L s).2 key lv F (lokStep d key lv L s).1 (acc + 1) w' := by
  obtain ⟨C, hr, hs⟩ := hs
  refine (lockStep_st hd hL ha hok hh hr hs).mono ?_
  rintro e w' ⟨C', he, hr', hs'⟩
  exact ⟨he, C', hr', hs'⟩
theorem LoOn.done (h4 : s.pc = 4) (hs : LoOn K b bm bc d L key level F s acc w) : ∃ (a : Option Addr) (c : Nat), St K w (blk b (.cells (.nilFunc :: .bool true :: lkTl d key s.h (.slice a s.h.pg.sl.length c)).toArray 125) :: slC (.slice a s.h.pg.sl.length c) s.h.pg :: memC bm bc L acc :: F) := by
  obtain ⟨pc, fd, id, aq, ow, h⟩ := s
  simp only at h4
  subst h4
  obtain ⟨C, hr, hs⟩ := hs
  obtain ⟨va, rfl⟩ := hr
  obtain ⟨a, c, rfl, _, _⟩ := (show St K w (rowC va 69 2 h.pg.sl.length (slRow h.pg.sl) :: _) from hs.b1).row_read
  exact ⟨a, c, hs⟩
/-- A Lock that waits: its node is locked by another. -/
def LoB (d : Cfg) (L0 : List Cel) (t : List (List Nd)) (key : ByteArray) (level : Nat) (nd : Nd) (s : LkS) : Prop :=
  (s.pc = 0 ∧ s.h = hd0 ∧ s.fd.pc ≠ 2 ∧ ∃ m, FdV d L0 t key level s.fd m) ∨ (s.pc = 1 ∧ s.h = hd0 ∧ s.id = nd.id ∧ s.aq = acq0)
theorem LoB.step {nd : Nd} (hd : d.Ok) (hL : CelsOk L) (ht : TreeOk d L t) (hv : LatVar d t L L1) (hc : Cover t key level nd) (hone : ∀ nd', Cover t key level nd' → nd' = nd) (hw : (getC L1 (d.node nd.id 0)).n = 1) (h : LoB d L t key level nd s) :
    s.Ok d key level L1 ∧ s.h = hd0 ∧ LoB d L t key level nd (lokStep d key level L1 s).1 ∧ (lokStep d key level L1 s).2 = L1 ∧ (lokStep d key level L1 s).1.pc ≤ 1 := by
  have hno2 := hd.no2
  have hfa2 := hd.fa2
  have hlev : level < t.length := by
    obtain ⟨l, i, hl, _⟩ := hc
    exact (List.getElem?_eq_some_iff.1 hl).1
  obtain ⟨pc, fd, id, aq, ow, hh⟩ := s
  rcases h with ⟨h0, h1, h2, m, hI⟩ | ⟨h0, h1, h2, h3⟩
  · simp only at h0 h1 h2 hI
    subst h0 h1
    obtain ⟨q1, q2, q3, q4⟩ := hI.step hd hL ht hv h2
    have hid : (fdStep d L1 key level fd).pc = 2 → FdRes t key level (fdStep d L1 key level fd) := fun e => (q2.done (by omega)).2
    have hbd : (fdStep d L1 key level fd).pc = 2 → (0 ≤ (fdStep d L1 key level fd).id ∧ (fdStep d L1 key level fd).id < 18446744073709551616) ∧ (fdStep d L1 key level fd).pg.sl.length ≤ 1000000 := by
      intro e
      obtain ⟨r1, r2⟩ := hid e
      obtain ⟨l, i, nd, hl, hi, e1, e2, _⟩ := r1 hlev
      have hN := ht.nodes level l hl nd (List.mem_of_getElem? hi)
      have h3 := hN.id
      have h4 := hN.page.le
      rw [e1, e2]
      exact ⟨by omega, by omega⟩
    refine ⟨⟨Nat.zero_le _, fun _ => ⟨q3, h2, q4, hbd⟩, fun h => by simp at h, fun h => by simp at h, fun h => by simp at h, fun h => by simp at h⟩, rfl, ?_⟩
    unfold lokStep
    simp only
    by_cases hp : (fdStep d L1 key level fd).pc = 2
    · rw [if_pos hp]
      obtain ⟨r1, r2⟩ := hid hp
      obtain ⟨l, i, nd', hl, hi, e1, e2, e3, e4⟩ := r1 hlev
      obtain rfl := hone nd' ⟨l, i, hl, hi, e3, e4⟩
      have hN := ht.nodes level l hl nd' (List.mem_of_getElem? hi)
      have h3 := hN.id
      rw [if_neg (by rw [e1]; omega)]
      exact ⟨.inr ⟨rfl, rfl, e1, rfl⟩, rfl, Nat.le_refl _⟩
    · rw [if_neg hp]
      exact ⟨.inl ⟨rfl, rfl, hp, _, q2⟩, rfl, Nat.zero_le _⟩
  · simp only at h0 h1 h2 h3
    subst h0 h1 h2 h3
    have hN := hc.nd ht
    have hid := hN.id
    refine ⟨⟨by show 1 ≤ 3; omega, fun h => by simp at h, fun _ => by simp only; omega, fun _ => ⟨acq0_ok, by show (0 : Nat) ≠ 2; decide⟩, fun h => by simp at h, fun h => by simp at h⟩, rfl, ?_⟩
    have e : (if (1 : Int) % 2 = 1 then (⟨0, 0⟩ : AcqS) else ⟨1, ltLock 1⟩) = ⟨0, 0⟩ := if_pos (by decide)
    unfold lokStep acqStep acq0
    simp only [hw, e]
    rw [if_neg (by decide)]
    exact ⟨.inr ⟨rfl, rfl, rfl, rfl⟩, rfl, Nat.le_refl _⟩
end
def AwΦ (d : Cfg) (e : Nat) (ρ : Nat → Option Value) (v : Value) (cs : List Comp) : Prop := match e with
  | 1 => ∃ b : Nat, v = (.pointer (some ⟨b, 0, none⟩)) ∧ LkRep d ⟨#[107]⟩ 0 b lok0 cs
  | 3 => ∃ b : Nat, v = (.pointer (some ⟨b, 0, none⟩)) ∧ LkRep d ⟨#[107]⟩ 0 b lok0 cs
  | 4 => ∃ b : Nat, v = (.pointer (some ⟨b, 0, none⟩)) ∧ cs = [] ∧ ρ 1 = some (.pointer (some ⟨b, 0, none⟩))
  | 5 => ∃ b : Nat, v = (.pointer (some ⟨b, 0, none⟩)) ∧ cs = [] ∧ ρ 3 = some (.pointer (some ⟨b, 0, none⟩))
  | _ => False
theorem AwΦ.mono {d : Cfg} : Mono [1, 3, 4, 5] (AwΦ d) := by
  intro e ρ v cs k u he hk h
  simp only [List.mem_cons, List.not_mem_nil, or_false] at he
  rcases he with rfl | rfl | rfl | rfl
  · exact h
  · exact h
  · obtain ⟨b, h1, h2, h3⟩ := h
    exact ⟨b, h1, h2, upd_keep hk h3⟩
  · obtain ⟨b, h1, h2, h3⟩ := h
    exact ⟨b, h1, h2, upd_keep hk h3⟩
theorem cover1 {key : ByteArray} : Cover [[nd1]] key 0 nd1 := ⟨[nd1], 0, rfl, rfl, klt_empty _, rfl⟩
theorem cover1_one {key : ByteArray} {nd : Nd} (h : Cover [[nd1]] key 0 nd) : nd = nd1 := by
  obtain ⟨l, i, hl, hi, _⟩ := h
  obtain rfl : l = [nd1] := by simpa using hl.symm
  cases i with
  | zero => simpa using hi.symm
  | succ i => simp at hi
theorem latVar_lat {d : Cfg} {L : List Cel} {t : List (List Nd)} {nd : Nd} {k : Nat} {l : List Nd} (hd : d.Ok) (ht : TreeOk d L t) (hlen : (L.length : Int) = d.cells) (hl : t[k]? = some l) (hn : nd ∈ l) : LatVar d t L (latL d L nd) ∧ (getC (latL d L nd) (d.node nd.id 0)).n = latW d L nd + 1 := by
  have hN := ht.nodes k l hl nd hn
  have f1 := hd.fa1
  have hpos := node_in hd hN.id.1 hN.id.2 (k := 0) (by omega) (by omega)
  have he : getC (latL d L nd) (d.node nd.id 0) = ⟨ltLock (latW d L nd), ⟨#[]⟩, 0⟩ := getC_eq hpos.2.1 (by omega)
  have hlk := ltLock_free (x := latW d L nd) hN.free.n
  refine ⟨⟨putC_length _ _ _, fun i hi => getC_ne (hi k l hl nd hn), fun k' l' hl' nd' hn' => ?_⟩, by rw [he]; exact hlk⟩
  by_cases h : d.node nd'.id 0 = d.node nd.id 0
  · rw [h, he]; exact .inr hlk
  · rw [show getC (latL d L nd) (d.node nd'.id 0) = getC L (d.node nd'.id 0) from getC_ne h]
    exact .inl rfl
section
variable {K : Know} {w : World} {cs : List Comp}
set_option maxHeartbeats 2000000 in
theorem awake12_st (hs : St K w cs) : Calls Tryz.prog 14 #[] w fun e w' => e = .returned (.bool true) ∧ St K w' cs := by
  obtain ⟨d, hfa, hd, Q1, Q2⟩ : ∃ d : Cfg, d.fa = 4 ∧ Hid d.Ok ∧ Hid (∀ w, Calls Tryz.prog 12 #[.int .i64 1, .int .i64 0] w fun e w' => e = .returned (.agg #[.int .i64 d.th, .int .i64 d.sn, .int .i64 d.no, .int .i64 d.ch, .int .i64 d.re, .int .i64 d.fa, .int .u64 d.cl]) ∧ Below w.heap.size w w') ∧ Hid (∀ w K cs, St K w cs → Calls Tryz.prog 13 #[.agg #[.int .i64 d.th, .int .i64 d.sn, .int .i64 d.no, .int .i64 d.ch, .int .i64 d.re, .int .i64 d.fa, .int .u64 d.cl]] w fun e w'' => ∃ bm bc, e = .returned (.tuple #[.agg #[.int .i64 d.th, .int .i64 d.sn, .int .i64 d.no, .int .i64 d.ch, .int .i64 d.re, .int .i64 d.fa, .int .u64 d.cl], (.pointer (some ⟨bm, 0, none⟩))]) ∧ St K w'' (memC bm bc (startL d) 0 :: cs)) :=
    ⟨kitC 1 4 1000, rfl, Lib.hid (kit8_ok 0), Lib.hid (fun w => kitConfig_any 1 0 w), Lib.hid (fun w K cs hs => kitMemory_st (kit8_ok 0) hs)⟩
  have HT := Lib.hid (start_tree hd.out)
  have HL := Lib.hid (start_page hd.out).2.2.1
  have Hlen := Lib.hid (start_page hd.out).2.2.2
  have Hz : Hid (latW d (startL d) nd1 = 0) := Lib.hid (by unfold latW; rw [show d.node nd1.id 0 = d.node 1 0 from rfl, start_lat hd.out 1 (by omega) hd.out.no1]; rfl)
  have Hns : Hid (nodeSteps d = 9) := Lib.hid (by unfold nodeSteps; rw [hfa]; rfl)
  have Hfa := Lib.hid hfa
  clear hfa
  generalize startL d = L0 at *
  go_enter Tryz.func14, Tryz.ntmps14
  go_wp2_with fail
  refine (calls_same hs (Q1.out _)).mono ?_
  clear hs
  rintro e w1 ⟨rfl, hs⟩
  go_wp2_with fail
  refine (Q2.out _ _ _ hs).mono ?_
  clear hs
  rintro e w2 ⟨bm, bc, rfl, hs⟩
  have hs := hs.made (.cells #[.int .i64 (d).th, .int .i64 (d).sn, .int .i64 (d).no, .int .i64 (d).ch, .int .i64 (d).re, .int .i64 (d).fa, .int .u64 (d).cl] 29)
  obtain ⟨bl, hbl⟩ : ∃ bl, bl = w2.heap.size := ⟨_, rfl⟩
  go_upto_region 4 with (fail)
  rw [← hbl] at hs ⊢
  clear hbl
  refine wp_ck hs ?_
  clear hs
  intro w3 hs
  have Hs := Lib.hid hs
  clear hs
  refine region_effects [false, true, false, true, true, true] [1, 3, 4, 5] (fun | 4 => [1] | 5 => [3] | _ => [])
    (GR K (blk bl (.cells #[.int .i64 (d).th, .int .i64 (d).sn, .int .i64 (d).no, .int .i64 (d).ch, .int .i64 (d).re, .int .i64 (d).fa, .int .u64 (d).cl] 29) :: memC bm bc L0 0 :: cs) [1, 3, 4, 5] (AwΦ d))
    (fun W => St K W (blk bl (.cells #[.int .i64 (d).th, .int .i64 (d).sn, .int .i64 (d).no, .int .i64 (d).ch, .int .i64 (d).re, .int .i64 (d).fa, .int .u64 (d).cl] 29) :: memC bm bc L0 0 :: cs)) ?aS (by kernel_rfl) ?hB ?H ?haS ?h0 ?hI ?hR ?hE ?hQ
  case hB => as_aux_lemma => kernel_rfl
  case H =>
    intro W2 hs
    have k0 := hs.k0
    clear hs
    simp only [withM]
    repeat (go_big_quiet_step (fail))
    refine wpQuiet_nil ?_
    rfl
  case haS => rfl
  case h0 => exact GR.start Hs.out
  case hI => exact fun ρ W2 h => h.rest
  case hR => exact fun ρ W2 W3 h hb => h.same hb
  case hE =>
    refine ⟨?e1, ?e3, ?e4, ?e5, trivial⟩
    case e1 =>
      intro o ho ρ W2 h hcl hh1 hd2 af' haf
      obtain rfl := Option.some.inj ho
      replace haf : af' = fillD _ ρ [] _ := haf
      obtain ⟨C, R', hx1, hs, hnext⟩ := h.step AwΦ.mono 1 [] (by decide) (by decide) (by decide) hh1 (by simp)
      simp only [fillD] at haf
      subst haf
      have Hn := Lib.hid hnext
      clear hnext hx1 h hcl hd2 hh1
      have Q := Lib.hid (newLock_st (d := d) (key := ⟨#[107]⟩) (level := 0) hs)
      clear hs
      go_wp2_with fail
      refine (Q.out).mono ?_
      rintro e W3 ⟨b, C2, rfl, hr, hs'⟩
      have Hs' := Lib.hid hs'
      have Hr := Lib.hid hr
      clear hs' Q hr
      go_wp2
      exact ⟨rfl, _, rfl, Hn.out _ _ W3 ⟨b, rfl, Hr.out⟩ Hs'.out⟩
    case e3 =>
      intro o ho ρ W2 h hcl hh3 hd2 af' haf
      obtain rfl := Option.some.inj ho
      replace haf : af' = fillD _ ρ [] _ := haf
      obtain ⟨C, R', hx1, hs, hnext⟩ := h.step AwΦ.mono 3 [] (by decide) (by decide) (by decide) hh3 (by simp)
      simp only [fillD] at haf
      subst haf
      have Hn := Lib.hid hnext
      clear hnext hx1 h hcl hd2 hh3
      have Q := Lib.hid (newLock_st (d := d) (key := ⟨#[107]⟩) (level := 0) hs)
      clear hs
      go_wp2_with fail
      refine (Q.out).mono ?_
      rintro e W3 ⟨b, C2, rfl, hr, hs'⟩
      have Hs' := Lib.hid hs'
      have Hr := Lib.hid hr
      clear hs' Q hr
      go_wp2
      exact ⟨rfl, _, rfl, Hn.out _ _ W3 ⟨b, rfl, Hr.out⟩ Hs'.out⟩
    case e4 =>
      intro o ho ρ W2 h hcl hh4 hd2 af' haf
      obtain rfl := Option.some.inj ho
      replace haf : af' = fillD _ ρ [1] _ := haf
      obtain ⟨v1, hh1⟩ := Option.isSome_iff_exists.1 (hd2 1 (by show _ ∈ [1]; simp))
      obtain ⟨cs8, R8, ⟨b, rfl, _⟩, _⟩ := h.at 1 (by simp) hh1
      simp only [fillD, hh1, Option.getD_some, dstAt, List.getElem?_cons_succ, List.getElem?_cons_zero, Option.bind_some, Option.bind_none, Act.put, List.setIfInBounds_toArray, List.set_cons_zero, List.set_cons_succ] at haf
      subst haf
      have H := Lib.hid (h.know AwΦ.mono 4 (by decide) (by simp) hh4 (.pointer (some ⟨b, 0, none⟩)) ⟨b, rfl, rfl, upd_keep hh4 hh1⟩)
      clear h hcl hd2 hh4 hh1
      go_wp2
      exact ⟨rfl, _, rfl, H.out⟩
    case e5 =>
      intro o ho ρ W2 h hcl hh5 hd2 af' haf
      obtain rfl := Option.some.inj ho
      replace haf : af' = fillD _ ρ [3] _ := haf
      obtain ⟨v3, hh3⟩ := Option.isSome_iff_exists.1 (hd2 3 (by show _ ∈ [3]; simp))
      obtain ⟨cs8, R8, ⟨b, rfl, _⟩, _⟩ := h.at 3 (by simp) hh3
      simp only [fillD, hh3, Option.getD_some, dstAt, List.getElem?_cons_succ, List.getElem?_cons_zero, Option.bind_some, Option.bind_none, Act.put, List.setIfInBounds_toArray, List.set_cons_zero, List.set_cons_succ] at haf
      subst haf
      have H := Lib.hid (h.know AwΦ.mono 5 (by decide) (by simp) hh5 (.pointer (some ⟨b, 0, none⟩)) ⟨b, rfl, rfl, upd_keep hh5 hh3⟩)
      clear h hcl hd2 hh5 hh3
      go_wp2
      exact ⟨rfl, _, rfl, H.out⟩
  case hQ =>
  intro ρ W2 h hall
  obtain ⟨C, hC, hs⟩ := h.last hall
  obtain ⟨v1, h1, ba, rfl, hr1⟩ := hC 1 (by simp)
  obtain ⟨v3, h3, bb, rfl, hr3⟩ := hC 3 (by simp)
  obtain ⟨v4, h4, b4, rfl, c4, h4'⟩ := hC 4 (by simp)
  obtain ⟨v5, h5, b5, rfl, c5, h5'⟩ := hC 5 (by simp)
  rw [h1] at h4'
  rw [h3] at h5'
  obtain rfl : ba = b4 := by injection (Option.some.inj h4') with e; injection (Option.some.inj e) with e
  obtain rfl : bb = b5 := by injection (Option.some.inj h5') with e; injection (Option.some.inj e) with e
  simp only [fillD, h1, h3, h4, h5, Option.getD_some, dstAt, List.getElem?_cons_succ, List.getElem?_cons_zero, Option.bind_some, Option.bind_none, Act.put, List.setIfInBounds_toArray, List.set_cons_zero, List.set_cons_succ]
  simp only [List.flatMap_cons, List.flatMap_nil, List.append_nil, c4, c5, List.nil_append] at hs
  have hs1 : St K W2 (C 1 ++ memC bm bc L0 0 :: (C 3 ++ blk bl (.cells #[.int .i64 (d).th, .int .i64 (d).sn, .int .i64 (d).no, .int .i64 (d).ch, .int .i64 (d).re, .int .i64 (d).fa, .int .u64 (d).cl] 29) :: cs)) := hs.perm (by
    rw [List.append_assoc]
    refine List.Perm.append_left _ ?_
    have p1 : (C 3 ++ (blk bl (.cells #[.int .i64 (d).th, .int .i64 (d).sn, .int .i64 (d).no, .int .i64 (d).ch, .int .i64 (d).re, .int .i64 (d).fa, .int .u64 (d).cl] 29) :: memC bm bc L0 0 :: cs)).Perm (memC bm bc L0 0 :: (C 3 ++ blk bl (.cells #[.int .i64 (d).th, .int .i64 (d).sn, .int .i64 (d).no, .int .i64 (d).ch, .int .i64 (d).re, .int .i64 (d).fa, .int .u64 (d).cl] 29) :: cs)) := by
      have : C 3 ++ (blk bl (.cells #[.int .i64 (d).th, .int .i64 (d).sn, .int .i64 (d).no, .int .i64 (d).ch, .int .i64 (d).re, .int .i64 (d).fa, .int .u64 (d).cl] 29) :: memC bm bc L0 0 :: cs) = (C 3 ++ [blk bl (.cells #[.int .i64 (d).th, .int .i64 (d).sn, .int .i64 (d).no, .int .i64 (d).ch, .int .i64 (d).re, .int .i64 (d).fa, .int .u64 (d).cl] 29)]) ++ memC bm bc L0 0 :: cs := by simp
      rw [this]
      refine List.perm_middle.trans ?_
      simp
    exact p1)
  have ho : LoOn K ba bm bc d L0 ⟨#[107]⟩ (0 : Nat) (C 3 ++ blk bl (.cells #[.int .i64 (d).th, .int .i64 (d).sn, .int .i64 (d).no, .int .i64 (d).ch, .int .i64 (d).re, .int .i64 (d).fa, .int .u64 (d).cl] 29) :: cs) lok0 0 W2 := ⟨C 1, hr1, hs1⟩
  have Hr3 := Lib.hid hr3
  clear hs hs1 hr1 hr3 hC h hall h1 h3 h4 h5 h4' h5' c4 c5 Hs
  generalize C 3 = C3 at *
  go_wp2
  go_loopw [5] (fun vk wr => ∃ (n m : Nat) (s : LkS), n + m ≤ 20 ∧ vk = .int .i64 n ∧ s.pc ≠ 4 ∧ Hid (∃ L1, LoI d L0 [[nd1]] ⟨#[107]⟩ 0 s L1 m ∧ LoOn K ba bm bc d L1 ⟨#[107]⟩ (0 : Nat) (C3 ++ blk bl (.cells #[.int .i64 (d).th, .int .i64 (d).sn, .int .i64 (d).no, .int .i64 (d).ch, .int .i64 (d).re, .int .i64 (d).fa, .int .u64 (d).cl] 29) :: cs) s n wr)) (fun v _ => 60 - (intOf v).toNat)
  case atStart => exact ⟨0, 20, lok0, by omega, rfl, by decide, Lib.hid ⟨L0, LoI.start 20 (by rw [Hns.out, Hfa.out]; decide), ho⟩⟩
  case round =>
    clear ho
    obtain ⟨n, m, s, hnm, rfl, hpc, HI⟩ := hrel
    obtain ⟨L1, hI, ho⟩ := HI.out
    obtain ⟨g1, g2, g3, g4, g5⟩ := hI.step hd.out HL.out Hlen.out HT.out hpc
    have q := lockStep_on hd.out g4 (by omega) g2 g3 ho
    generalize (lokStep d ⟨#[107]⟩ ((0 : Nat) : Int) L1 s).2 = L2 at *
    generalize (lokStep d ⟨#[107]⟩ ((0 : Nat) : Int) L1 s).1 = s' at *
    clear ho g2 g3 g4 hI HI
    by_cases hp : 4 ≤ s'.pc
    · rw [decide_eq_true hp] at q
      have Q := Lib.hid q
      clear q
      obtain ⟨h4, nd, hc, hh, hL2⟩ : s'.pc = 4 ∧ ∃ nd, Cover [[nd1]] ⟨#[107]⟩ 0 nd ∧ s'.h = ⟨nd.id, ltLock 0, nd.pg⟩ ∧ L2 = latL d L0 nd := by
        rcases g5 with ⟨h, _⟩ | ⟨h, _⟩ | ⟨h, _⟩ | ⟨h, ⟨nd, h1, h2, h3⟩ | ⟨h1, _⟩⟩
        · omega
        · omega
        · omega
        · exact ⟨h, nd, h1, by rw [h2, cover1_one h1, Hz.out], h3⟩
        · simp at h1
      obtain rfl := cover1_one hc
      have H4 := Lib.hid h4
      have Hh := Lib.hid hh
      have HL2 := Lib.hid hL2
      clear g5 hp h4 hh hL2 hc
      go_wp2_with fail
      refine (Q.out).mono ?_
      clear Q
      rintro e w4 ⟨rfl, ho⟩
      have ho := ho.done H4.out
      rw [Hh.out] at ho
      obtain ⟨a, c, hs⟩ := ho
      have hs2 : St K w4 (C3 ++ memC bm bc L2 (n + 1) :: (blk ba (.cells (.nilFunc :: .bool true :: lkTl d ⟨#[107]⟩ (⟨nd1.id, ltLock 0, nd1.pg⟩ : InH) (.slice a nd1.pg.sl.length c)).toArray 125) :: slC (.slice a nd1.pg.sl.length c) nd1.pg :: blk bl (.cells #[.int .i64 (d).th, .int .i64 (d).sn, .int .i64 (d).no, .int .i64 (d).ch, .int .i64 (d).re, .int .i64 (d).fa, .int .u64 (d).cl] 29) :: cs)) := by
        have h1 : St K w4 ([blk ba (.cells (.nilFunc :: .bool true :: lkTl d ⟨#[107]⟩ (⟨nd1.id, ltLock 0, nd1.pg⟩ : InH) (.slice a nd1.pg.sl.length c)).toArray 125), slC (.slice a nd1.pg.sl.length c) nd1.pg] ++ (memC bm bc L2 (n + 1) :: (C3 ++ (blk bl (.cells #[.int .i64 (d).th, .int .i64 (d).sn, .int .i64 (d).no, .int .i64 (d).ch, .int .i64 (d).re, .int .i64 (d).fa, .int .u64 (d).cl] 29) :: cs)))) := hs
        have h2 : St K w4 (memC bm bc L2 (n + 1) :: (C3 ++ (blk ba (.cells (.nilFunc :: .bool true :: lkTl d ⟨#[107]⟩ (⟨nd1.id, ltLock 0, nd1.pg⟩ : InH) (.slice a nd1.pg.sl.length c)).toArray 125) :: slC (.slice a nd1.pg.sl.length c) nd1.pg :: blk bl (.cells #[.int .i64 (d).th, .int .i64 (d).sn, .int .i64 (d).no, .int .i64 (d).ch, .int .i64 (d).re, .int .i64 (d).fa, .int .u64 (d).cl] 29) :: cs))) := h1.perm (by
          refine List.perm_middle.trans (List.Perm.cons _ ?_)
          rw [← List.append_assoc]
          have p := (List.perm_append_comm (l₁ := [blk ba (.cells (.nilFunc :: .bool true :: lkTl d ⟨#[107]⟩ (⟨nd1.id, ltLock 0, nd1.pg⟩ : InH) (.slice a nd1.pg.sl.length c)).toArray 125), slC (.slice a nd1.pg.sl.length c) nd1.pg]) (l₂ := C3)).append_right (blk bl (.cells #[.int .i64 (d).th, .int .i64 (d).sn, .int .i64 (d).no, .int .i64 (d).ch, .int .i64 (d).re, .int .i64 (d).fa, .int .u64 (d).cl] 29) :: cs)
          simpa using p)
        exact h2.swap1
      have hb : LoOn K bb bm bc d L2 ⟨#[107]⟩ (0 : Nat) (blk ba (.cells (.nilFunc :: .bool true :: lkTl d ⟨#[107]⟩ (⟨nd1.id, ltLock 0, nd1.pg⟩ : InH) (.slice a nd1.pg.sl.length c)).toArray 125) :: slC (.slice a nd1.pg.sl.length c) nd1.pg :: blk bl (.cells #[.int .i64 (d).th, .int .i64 (d).sn, .int .i64 (d).no, .int .i64 (d).ch, .int .i64 (d).re, .int .i64 (d).fa, .int .u64 (d).cl] 29) :: cs) lok0 (n + 1) w4 := ⟨C3, Hr3.out, hs2⟩
      obtain ⟨hv, hw⟩ := latVar_lat (k := 0) (l := [nd1]) (nd := nd1) hd.out HT.out Hlen.out rfl (by simp)
      rw [Hz.out] at hw
      replace hw : (getC (latL d L0 nd1) (d.node nd1.id 0)).n = 1 := hw
      rw [← HL2.out] at hv hw
      have HV := Lib.hid hv
      have HW := Lib.hid hw
      clear hs hs2 hv hw H4 HL2 ho
      go_wp2
      go_loopw [6] (fun vk wr => ∃ (k : Nat) (s : LkS), k ≤ 30 ∧ vk = .int .i64 k ∧ LoB d L0 [[nd1]] ⟨#[107]⟩ 0 nd1 s ∧ LoOn K bb bm bc d L2 ⟨#[107]⟩ (0 : Nat) (blk ba (.cells (.nilFunc :: .bool true :: lkTl d ⟨#[107]⟩ (⟨nd1.id, ltLock 0, nd1.pg⟩ : InH) (.slice a nd1.pg.sl.length c)).toArray 125) :: slC (.slice a nd1.pg.sl.length c) nd1.pg :: blk bl (.cells #[.int .i64 (d).th, .int .i64 (d).sn, .int .i64 (d).no, .int .i64 (d).ch, .int .i64 (d).re, .int .i64 (d).fa, .int .u64 (d).cl] 29) :: cs) s (n + 1 + k) wr) (fun v _ => 60 - (intOf v).toNat)
      case atStart => exact ⟨0, lok0, by omega, rfl, .inl ⟨rfl, rfl, by show (0 : Nat) ≠ 2; decide, _, FdV.start⟩, hb⟩
      case round =>
        clear hb
        obtain ⟨k, s2, hk, rfl, hB, ho⟩ := hrel
        by_cases hk30 : k < 30
        · obtain ⟨g1, g2, g3, g4, g5⟩ := hB.step hd.out HL.out HT.out HV.out cover1 (fun nd' h => cover1_one h) HW.out
          have q := lockStep_on hd.out (HV.out.cels HT.out HL.out) (by omega) g1 g2 ho
          rw [g4] at q
          rw [decide_eq_false (show ¬ 4 ≤ (lokStep d ⟨#[107]⟩ ((0 : Nat) : Int) L2 s2).1.pc by omega)] at q
          generalize (lokStep d ⟨#[107]⟩ ((0 : Nat) : Int) L2 s2).1 = s3 at *
          have Q := Lib.hid q
          have G3 := Lib.hid g3
          clear q g1 g2 g3 g4 g5 ho hB
          go_wp2_with fail
          refine (Q.out).mono ?_
          clear Q
          rintro e w5 ⟨rfl, ho⟩
          have Ho := Lib.hid ho
          clear ho
          go_wp2
          go_roundw
          case rel => exact ⟨k + 1, s3, by omega, by go_num, G3.out, Ho.out⟩
          case measure => simp [intOf]; omega
        · obtain ⟨CB, hrB, hs⟩ := ho
          have hs : St K wr (blk ba (.cells (.nilFunc :: .bool true :: lkTl d ⟨#[107]⟩ (⟨nd1.id, ltLock 0, nd1.pg⟩ : InH) (.slice a nd1.pg.sl.length c)).toArray 125) :: slC (.slice a nd1.pg.sl.length c) nd1.pg :: memC bm bc L2 (n + 1 + k) :: blk bl (.cells #[.int .i64 (d).th, .int .i64 (d).sn, .int .i64 (d).no, .int .i64 (d).ch, .int .i64 (d).re, .int .i64 (d).fa, .int .u64 (d).cl] 29) :: cs) := by
            have h1 := hs.dropl
            exact h1.re [1, 2, 0] rfl
          have q := lockHeld_st (h := ⟨nd1.id, ltLock 0, nd1.pg⟩) (by show nd1.pg.sl.length ≤ 1000000; decide) hs
          have Q := Lib.hid q
          have Qp := Lib.hid (fun W (h : MemAt W bm bc L2 (n + 1 + k)) => peek_any W bm bc L2 (n + 1 + k) (d.node 1 0) h)
          have Ql := Lib.hid (fun w => latch_any d hd.out 1 (by decide) (by decide) w)
          have Qk := Lib.hid (fun w => ltLocked_any 1 (by decide) (by decide) w)
          have hz : (getC L2 (d.node 1 0)).n = 1 := HW.out
          obtain ⟨cz, hcz⟩ : ∃ cz, cz = getC L2 (d.node 1 0) := ⟨_, rfl⟩
          rw [← hcz] at hz
          obtain ⟨z1, z2, z3⟩ := cz
          simp only at hz
          subst hz
          rw [← hcz] at Qp
          have hk3 : ¬ (k : Int) < 30 := by omega
          clear q hs hrB hcz hk30 hk hB
          go_wp2_with fail
          refine (Q.out).mono ?_
          clear Q hk3
          rintro e w5 ⟨va, rfl, hs⟩
          have kl := (hs.b4).k0
          obtain ⟨a5, c5, rfl, _, _⟩ := (show St K w5 (rowC va 69 2 nd1.pg.sl.length (slRow nd1.pg.sl) :: _) from hs).row_read
          have hs := hs.tail.tail.tail
          go_wp2_with fail
          refine (calls_same hs (Ql.out _)).mono ?_
          clear hs kl
          rintro e w6 ⟨rfl, hs⟩
          go_wp2_with fail
          refine (calls_same hs (Qp.out _ hs.mem)).mono ?_
          clear hs
          rintro e w7 ⟨rfl, hs⟩
          go_wp2_with fail
          refine (calls_id hs (Qk.out _)).mono ?_
          clear hs
          rintro e w8 ⟨rfl, hs⟩
          have Hs := Lib.hid hs.tail.tail
          clear hs
          go_wp2
          go_ret
          exact ⟨rfl, Hs.out⟩
    · have hp2 : s'.pc ≠ 4 := by omega
      rw [decide_eq_false hp] at q
      have Q := Lib.hid q
      have G5 := Lib.hid g5
      clear q g5
      have hn30 : (n : Int) < 30 := by omega
      go_wp2_with fail
      refine (Q.out).mono ?_
      clear Q
      rintro e w4 ⟨rfl, ho⟩
      have Ho := Lib.hid ho
      clear ho hn30
      go_wp2
      go_roundw
      case rel => exact ⟨n + 1, m - 1, s', by omega, by go_num, hp2, Lib.hid ⟨L2, G5.out, Ho.out⟩⟩
      case measure => simp [intOf]; omega
end
end Go.Proofs.YtlpdhhhgckpcfaaGreat
