
/- The machine leaflock.Lock: Find, Acquire, Own, Release as its parts. -/
import Derived.Test.YtlpdhhhgckpcfaaGreatAcq
import Derived.Test.YtlpdhhhgckpcfaaGreatNodeOwn
import Derived.Test.YtlpdhhhgckpcfaaGreatMach
import Derived.Test.YtlpdhhhgckpcfaaGreatInsB
namespace Go.Proofs.YtlpdhhhgckpcfaaGreat
open Go.RowKit
set_option maxRecDepth 100000
/-- A Lock's cells behind its position. -/
def lkTl (d : Cfg) (key : ByteArray) (h : InH) (va : Value) : List Value :=
  [.int .i64 d.th, .int .i64 d.sn, .int .i64 d.no, .int .i64 d.ch, .int .i64 d.re, .int .i64 d.fa, .int .u64 d.cl, .string key, .int .u64 h.id, .int .u64 h.word, .int .i64 h.pg.lev, va, .string h.pg.hi, .bool h.pg.la, .int .u64 h.pg.ri]
/-- Lock: 0 it finds, 1 it acquires, 2 it reads the node, 3 it gives the node back, 4 it has ended. -/
structure LkS where
  pc : Nat
  fd : FdS
  id : Int
  aq : AcqS
  ow : RdS
  h : InH
def lok0 : LkS := ⟨0, fd0, 0, acq0, own0 0, hd0⟩
/-- The node covers the key (its low key does not count). -/
def pgIn (key : ByteArray) (pg : Pg) : Bool := pg.la || klt key pg.hi
def lokStep (d : Cfg) (key : ByteArray) (level : Int) (L : List Cel) (s : LkS) : LkS × List Cel :=
  match s.pc with
  | 0 =>
    let f := fdStep d L key level s.fd
    if f.pc = 2 then (if f.id = 0 then ({ s with pc := 4, fd := f }, L) else ({ s with pc := 1, fd := f, id := f.id, aq := acq0 }, L)) else ({ s with fd := f }, L)
  | 1 =>
    let a := acqStep (d.node s.id 0) L s.aq
    if a.1.pc = 2 then ({ s with pc := 2, aq := a.1, ow := own0 a.1.word }, a.2) else ({ s with aq := a.1 }, a.2)
  | 2 =>
    let o := ownStep d s.id L s.ow
    if o.pc = 6 then (if pgIn key o.pg then ({ s with pc := 4, ow := o, h := ⟨s.id, o.word, o.pg⟩ }, L) else ({ s with pc := 3, ow := o }, L)) else ({ s with ow := o }, L)
  | 3 => ({ s with pc := 1, id := s.ow.pg.ri, aq := acq0 }, putC L (d.node s.id 0) ⟨ltUnlock s.ow.word, ⟨#[]⟩, 0⟩)
  | _ => (s, L)
def lkThen0 (bvf bvk : Nat) : Value := .func (.func 75) #[] #[(.pointer (some ⟨bvf, 0, none⟩)), (.pointer (some ⟨bvk, 0, none⟩))]
def lkThen1 (bk bi bva : Nat) : Value := .func (.func 117) #[] #[(.pointer (some ⟨bk, 0, none⟩)), (.pointer (some ⟨bi, 0, none⟩)), (.pointer (some ⟨bva, 0, none⟩))]
def lkThen2 (bk bvo : Nat) : Value := .func (.func 120) #[] #[(.pointer (some ⟨bk, 0, none⟩)), (.pointer (some ⟨bvo, 0, none⟩))]
def lkThen3 (bk bh : Nat) : Value := .func (.func 154) #[] #[(.pointer (some ⟨bk, 0, none⟩)), (.pointer (some ⟨bh, 0, none⟩))]
/-- The parts of a Lock. -/
def LkRep (d : Cfg) (key : ByteArray) (level : Int) (b : Nat) (s : LkS) (C : List Comp) : Prop :=
  match s.pc with
  | 0 => ∃ b2 b3 b5 bf bvf bvk B va1 va2, C = blk b (.cells ((stV (some (callFV b2 b3 b5))) :: .bool true :: lkTl d key hd0 (.slice none 0 0)).toArray 125) :: callC b2 b3 b5 (.iface 84 (.pointer (some ⟨bf, 0, none⟩))) (lkThen0 bvf bvk) :: ([blk bvf (.cells #[(.pointer (some ⟨bf, 0, none⟩))] 84), blk bvk (.cells #[(.pointer (some ⟨b, 0, none⟩))] 37)] ++ fdL bf (stV (fdPv bf B s.fd.pc)) B va1 va2 d key level s.fd)
  | 1 => ∃ b2 b3 b5 ba bk bi bva, C = blk b (.cells ((stV (some (callFV b2 b3 b5))) :: .bool true :: lkTl d key hd0 (.slice none 0 0)).toArray 125) :: callC b2 b3 b5 (.iface 175 (.pointer (some ⟨ba, 0, none⟩))) (lkThen1 bk bi bva) :: ([blk bk (.cells #[(.pointer (some ⟨b, 0, none⟩))] 37), blk bi (.cells #[.int .u64 s.id] 23), blk bva (.cells #[(.pointer (some ⟨ba, 0, none⟩))] 175)] ++ [acqC ba (d.node s.id 0) s.aq])
  | 2 => ∃ b2 b3 b5 bo bk bvo va1, C = blk b (.cells ((stV (some (callFV b2 b3 b5))) :: .bool true :: lkTl d key hd0 (.slice none 0 0)).toArray 125) :: callC b2 b3 b5 (.iface 177 (.pointer (some ⟨bo, 0, none⟩))) (lkThen2 bk bvo) :: ([blk bk (.cells #[(.pointer (some ⟨b, 0, none⟩))] 37), blk bvo (.cells #[(.pointer (some ⟨bo, 0, none⟩))] 177)] ++ [ownC bo d s.id va1 s.ow, slC va1 s.ow.pg])
  | 3 => ∃ b2 b3 b5 br bi bw bk bh va1, C = blk b (.cells ((stV (some (callFV b2 b3 b5))) :: .bool true :: lkTl d key hd0 (.slice none 0 0)).toArray 125) :: callC b2 b3 b5 (.iface 47 (.pointer (some ⟨br, 0, none⟩))) (lkThen3 bk bh) :: ([blk bk (.cells #[(.pointer (some ⟨b, 0, none⟩))] 37), blk bh (.cells #[.int .u64 ((⟨s.id, s.ow.word, s.ow.pg⟩ : InH)).id, .int .u64 ((⟨s.id, s.ow.word, s.ow.pg⟩ : InH)).word, .int .i64 ((⟨s.id, s.ow.word, s.ow.pg⟩ : InH)).pg.lev, va1, .string ((⟨s.id, s.ow.word, s.ow.pg⟩ : InH)).pg.hi, .bool ((⟨s.id, s.ow.word, s.ow.pg⟩ : InH)).pg.la, .int .u64 ((⟨s.id, s.ow.word, s.ow.pg⟩ : InH)).pg.ri] 45)] ++ relL br bi bw (d.node s.id 0) s.ow.word 0)
  | _ => ∃ va1, C = [blk b (.cells (.nilFunc :: .bool true :: lkTl d key s.h va1).toArray 125), slC va1 s.h.pg]
section
variable {K : Know} {w : World} {F : List Comp} {b : Nat} {d : Cfg} {key : ByteArray} {level : Int}
set_option maxHeartbeats 1000000 in
theorem newLock_st (hs : St K w F) : Calls Tryz.prog 17 #[.agg #[.int .i64 d.th, .int .i64 d.sn, .int .i64 d.no, .int .i64 d.ch, .int .i64 d.re, .int .i64 d.fa, .int .u64 d.cl], .string key, .int .i64 level] w fun e w' => ∃ b C, e = .returned (.pointer (some ⟨b, 0, none⟩)) ∧ LkRep d key level b lok0 C ∧ St K w' (C ++ F) := by
  have hs := hs.made (.cells #[.int .i64 (d).th, .int .i64 (d).sn, .int .i64 (d).no, .int .i64 (d).ch, .int .i64 (d).re, .int .i64 (d).fa, .int .u64 (d).cl] 29)
  have hs := hs.made (.cells (.nilFunc :: .bool false :: lkTl d key hd0 (.slice none 0 0)).toArray 125)
  have hs := hs.made (.cells #[(.pointer (some ⟨(w.heap.size + 1), 0, none⟩))] 37)
  simp only [World.size_alloc] at hs
  have Hs := Lib.hid hs
  clear hs
  go_enter Tryz.func17, Tryz.ntmps17
  go_wp2_with fail
  refine (newFind_st (level := level) Hs.out).mono ?_
  clear Hs
  rintro e w1 ⟨bf, rfl, hs⟩
  have hs := hs ⟨0, 0, 0, 0, 0, 0⟩
  have hs := hs.made (.cells #[(.pointer (some ⟨bf, 0, none⟩))] 84)
  obtain ⟨bl, hbl⟩ : ∃ bl, bl = w.heap.size := ⟨_, rfl⟩
  obtain ⟨bvf, hbvf⟩ : ∃ bvf, bvf = w1.heap.size := ⟨_, rfl⟩
  go_upto_region 3 with (fail)
  rw [← hbl] at hs ⊢
  rw [← hbvf] at hs ⊢
  clear hbl hbvf
  refine wp_ck hs ?_
  clear hs
  intro w2 hs
  have hs : St K w2 (blk (bl + 1) (.cells (.nilFunc :: .bool false :: lkTl d key hd0 (.slice none 0 0)).toArray 125) :: blk bvf (.cells #[(.pointer (some ⟨bf, 0, none⟩))] 84) :: blk (bl + 1 + 1) (.cells #[(.pointer (some ⟨(bl + 1), 0, none⟩))] 37) :: (fdL bf (stV (some (rootFV bf))) ⟨0, 0, 0, 0, 0, 0⟩ (.slice none 0 0) (.slice none 0 0) d key level fd0 ++ F)) := (hs.re [5, 4, 0, 3, 1, 2] rfl).tail
  have Hs := Lib.hid hs
  clear hs
  refine region_effects [false, false, false, false, true, true, false, false, true] [4, 5, 8] (fun | 5 => [4] | 8 => [5] | _ => [])
    (BgG K (blk bvf (.cells #[(.pointer (some ⟨bf, 0, none⟩))] 84) :: blk (bl + 1 + 1) (.cells #[(.pointer (some ⟨(bl + 1), 0, none⟩))] 37) :: (fdL bf (stV (some (rootFV bf))) ⟨0, 0, 0, 0, 0, 0⟩ (.slice none 0 0) (.slice none 0 0) d key level fd0 ++ F)) (bl + 1) 125 (lkTl d key hd0 (.slice none 0 0)) 4 5 8 (CbΦ 84 (.pointer (some ⟨bf, 0, none⟩)) (lkThen0 bvf (bl + 1 + 1))))
    (fun W => St K W (blk bvf (.cells #[(.pointer (some ⟨bf, 0, none⟩))] 84) :: blk (bl + 1 + 1) (.cells #[(.pointer (some ⟨(bl + 1), 0, none⟩))] 37) :: (fdL bf (stV (some (rootFV bf))) ⟨0, 0, 0, 0, 0, 0⟩ (.slice none 0 0) (.slice none 0 0) d key level fd0 ++ F))) ?aSA (by kernel_rfl) ?hBA ?HA ?haSA ?h0A ?hIA ?hRA ?hEA ?hQA
  case hBA => as_aux_lemma => kernel_rfl
  case HA =>
    intro W2 hs
    have k0 := hs.k0
    have k1 := hs.k1
    clear hs
    simp only [withM]
    repeat (go_big_quiet_step (fail))
    refine wpQuiet_nil ?_
    rfl
  case haSA => rfl
  case h0A => exact BgG.start Hs.out
  case hIA => exact fun ρ W2 h => h.rest
  case hRA => exact fun ρ W2 W3 h hb => h.same hb
  case hEA =>
    refine ⟨?e1A, ?e2A, ?e3A, trivial⟩
    case e1A =>
      intro o ho ρ W2 h hcl hh4 hd2 af' haf
      obtain rfl := Option.some.inj ho
      replace haf : af' = fillD _ ρ [] _ := haf
      have hh5 : ρ 5 = none := hcl.none (by simp) (show 4 ∈ [4] by simp) hh4
      have hh8 : ρ 8 = none := hcl.none (by simp) (show 5 ∈ [5] by simp) hh5
      obtain ⟨hs, hnext⟩ := h.call (by omega) (by omega) hh4 hh5 hh8
      simp only [fillD] at haf
      subst haf
      have Hn := Lib.hid hnext
      clear hnext hcl hd2 hh4 hh5 hh8 h
      have Q := Lib.hid (call_st (T2 := 84) (xv := (.pointer (some ⟨bf, 0, none⟩))) (f := 75) (tx := #[]) (ty := #[(.pointer (some ⟨bvf, 0, none⟩)), (.pointer (some ⟨(bl + 1 + 1), 0, none⟩))]) hs)
      clear hs
      go_wp2_with fail
      refine (Q.out).mono ?_
      rintro e W3 ⟨b2, b3, b5, rfl, hs'⟩
      have Hs' := Lib.hid hs'
      clear hs' Q
      simp only [callFV, stV]
      go_wp2
      exact ⟨rfl, _, rfl, Hn.out _ _ W3 ⟨b2, b3, b5, rfl, rfl⟩ Hs'.out⟩
    case e2A =>
      intro o ho ρ W2 h hcl hh5 hd2 af' haf
      obtain rfl := Option.some.inj ho
      replace haf : af' = fillD _ ρ [4] _ := haf
      obtain ⟨v4, hh4⟩ := Option.isSome_iff_exists.1 (hd2 4 (by show _ ∈ [4]; simp))
      obtain ⟨fv, rfl, hnext⟩ := h.begin (by omega) (by omega) hh4
      simp only [fillD, hh4, Option.getD_some, dstAt, List.getElem?_cons_succ, List.getElem?_cons_zero, Option.bind_some, Option.bind_none, Act.put, List.setIfInBounds_toArray, List.set_cons_zero, List.set_cons_succ] at haf
      subst haf
      have Hn := Lib.hid hnext
      clear hnext hcl hd2 hh4 hh5 h
      simp only [stV]
      go_wp2_with fail
      refine (begin_any _ _ _ _).mono ?_
      rintro e W3 ⟨rfl, hb⟩
      have Hb := Lib.hid hb
      clear hb
      go_wp2
      exact ⟨rfl, _, rfl, Hn.out W3 Hb.out⟩
    case e3A =>
      intro o ho ρ W2 h hcl hh8 hd2 af' haf
      obtain rfl := Option.some.inj ho
      replace haf : af' = fillD _ ρ [5] _ := haf
      obtain ⟨v5, hh5⟩ := Option.isSome_iff_exists.1 (hd2 5 (by show _ ∈ [5]; simp))
      obtain ⟨fv, R', rfl, hs, hnext⟩ := h.store (by omega) (by omega) hh5 hh8
      simp only [fillD, hh5, Option.getD_some, dstAt, List.getElem?_cons_succ, List.getElem?_cons_zero, Option.bind_some, Option.bind_none, Act.put, List.setIfInBounds_toArray, List.set_cons_zero, List.set_cons_succ] at haf
      subst haf
      have k := hs.k0
      have kf := hs.f0
      unfold lkTl at k
      have Hs3 := Lib.hid ((hs.setL 0 (stV (some fv))).setL 1 (.bool true))
      simp only [List.set_cons_zero, List.set_cons_succ] at Hs3
      have Hn := Lib.hid hnext
      clear hs hnext hcl hd2 h hh5 hh8
      simp only [stV] at Hs3 ⊢
      go_wp2
      exact ⟨rfl, undef, rfl, Hn.out _ Hs3.out⟩
  case hQA =>
  intro ρ W2 h hall
  obtain ⟨fv, C, hh4, hh5, ⟨v8, hh8⟩, hΦ, hs⟩ := h.last hall
  simp only [fillD, hh4, hh5, hh8, Option.getD_some, dstAt, List.getElem?_cons_succ, List.getElem?_cons_zero, Option.bind_some, Option.bind_none, Act.put, List.setIfInBounds_toArray, List.set_cons_zero, List.set_cons_succ]
  clear h hall hh4 hh5 hh8 Hs
  obtain ⟨b2, b3, b5, rfl, rfl⟩ := hΦ
  have kv := (show St K W2 (callC _ _ _ _ _ :: blk _ _ :: blk _ _ :: blk _ (.cells #[(.pointer (some ⟨(bl + 1), 0, none⟩))] 37) :: _) from hs).b3.k0
  have Hs := Lib.hid hs
  clear hs
  go_wp2
  go_ret
  exact ⟨_, _, rfl, ⟨b2, b3, b5, bf, bvf, _, ⟨0, 0, 0, 0, 0, 0⟩, .slice none 0 0, .slice none 0 0, rfl⟩, (show St K W2 (callC _ _ _ _ _ :: blk _ _ :: _) from Hs.out).b1⟩
end
section
variable {K : Know} {w : World} {F : List Comp} {b : Nat} {d : Cfg} {key : ByteArray} {h : InH} {va nx : Value} {id : Int}
set_option maxHeartbeats 1000000 in
theorem lockAcquire_st (hd : d.Ok) (hid : 0 ≤ id ∧ id < 18446744073709551616) (hs : St K w (blk b (.cells (nx :: .bool true :: lkTl d key h va).toArray 125) :: F)) : Calls Tryz.prog 76 #[(.pointer (some ⟨b, 0, none⟩)), .int .u64 id] w fun e w' => ∃ b2 b3 b5 ba bk bi bva, e = .returned (stV (some (callFV b2 b3 b5))) ∧
    St K w' (blk b (.cells (nx :: .bool true :: lkTl d key h va).toArray 125) :: callC b2 b3 b5 (.iface 175 (.pointer (some ⟨ba, 0, none⟩))) (lkThen1 bk bi bva) :: blk bk (.cells #[(.pointer (some ⟨b, 0, none⟩))] 37) :: blk bi (.cells #[.int .u64 id] 23) :: blk bva (.cells #[(.pointer (some ⟨ba, 0, none⟩))] 175) :: acqC ba (d.node id 0) acq0 :: F) := by
  have hs := (hs.made (.cells #[(.pointer (some ⟨b, 0, none⟩))] 37)).made (.cells #[.int .u64 id] 23)
  simp only [World.size_alloc] at hs
  go_enter Tryz.func76, Tryz.ntmps76
  go_upto_region 1 with (fail)
  obtain ⟨bk, hbk⟩ : ∃ bk, bk = w.heap.size := ⟨_, rfl⟩
  rw [← hbk] at hs ⊢
  clear hbk
  refine wp_ck hs ?_
  clear hs
  intro w1 hs
  have Hs := Lib.hid hs
  clear hs
  refine region_effects [false, false, false, false, false, false, true, true, true] [6, 7, 8] (fun | 8 => [6, 7] | _ => [])
    (CvR K (blk (bk + 1) (.cells #[.int .u64 id] 23) :: blk bk (.cells #[(.pointer (some ⟨b, 0, none⟩))] 37) :: blk b (.cells (nx :: .bool true :: lkTl d key h va).toArray 125) :: F) 175 (.pointer none) 6 7 8 (fun v C => ∃ ba, v = (.pointer (some ⟨ba, 0, none⟩)) ∧ C = [acqC ba (d.node id 0) acq0]))
    (fun W => St K W (blk (bk + 1) (.cells #[.int .u64 id] 23) :: blk bk (.cells #[(.pointer (some ⟨b, 0, none⟩))] 37) :: blk b (.cells (nx :: .bool true :: lkTl d key h va).toArray 125) :: F)) ?aSB (by kernel_rfl) ?hBB ?HB ?haSB ?h0B ?hIB ?hRB ?hEB ?hQB
  case hBB => as_aux_lemma => kernel_rfl
  case HB =>
    intro W2 hs
    have k0 := hs.k0
    have k1 := hs.k1
    have k2 := hs.k2
    unfold lkTl at k2
    have Ql := Lib.hid (fun w => latch_any d hd id hid.1 hid.2 w)
    clear hs
    simp only [withM]
    repeat (go_big_quiet_step ((go_at_call 69; exact pure_of (Ql.out _))))
    refine wpQuiet_nil ?_
    rfl
  case haSB => rfl
  case h0B => exact CvR.start Hs.out
  case hIB => exact fun ρ W2 h => h.rest
  case hRB => exact fun ρ W2 W3 h hb => h.same hb
  case hEB =>
    refine ⟨?e1B, ?e2B, ?e3B, trivial⟩
    case e1B =>
      intro o ho ρ W2 h hcl hh6 hd2 af' haf
      obtain rfl := Option.some.inj ho
      replace haf : af' = fillD _ ρ [] _ := haf
      have hh8 : ρ 8 = none := hcl.none (by simp) (show 6 ∈ [6, 7] by simp) hh6
      obtain ⟨X, hs, hnext⟩ := h.call (by omega) (by omega) hh6 hh8
      simp only [fillD] at haf
      subst haf
      have Hn := Lib.hid hnext
      clear hnext hcl hd2 hh6 hh8 h
      go_wp2_with fail
      refine (newAcquire_st (i := d.node id 0) hs).mono ?_
      rintro e W3 ⟨ba, rfl, hs'⟩
      have Hs' := Lib.hid hs'
      clear hs hs'
      go_wp2
      exact ⟨rfl, _, rfl, Hn.out _ _ W3 ⟨ba, rfl, rfl⟩ Hs'.out⟩
    case e2B =>
      intro o ho ρ W2 h hcl hh7 hd2 af' haf
      obtain rfl := Option.some.inj ho
      replace haf : af' = fillD _ ρ [] _ := haf
      have hh8 : ρ 8 = none := hcl.none (by simp) (show 7 ∈ [6, 7] by simp) hh7
      have Hn := Lib.hid (h.var (by omega) (by omega) hh7 hh8)
      simp only [fillD] at haf
      subst haf
      clear hcl hd2 hh7 hh8 h
      go_wp2
      exact ⟨rfl, _, rfl, Hn.out⟩
    case e3B =>
      intro o ho ρ W2 h hcl hh8 hd2 af' haf
      obtain rfl := Option.some.inj ho
      replace haf : af' = fillD _ ρ [6, 7] _ := haf
      obtain ⟨v6, hh6⟩ := Option.isSome_iff_exists.1 (hd2 6 (by show _ ∈ [6, 7]; simp))
      obtain ⟨v7, hh7⟩ := Option.isSome_iff_exists.1 (hd2 7 (by show _ ∈ [6, 7]; simp))
      obtain ⟨bv, R', rfl, ⟨C, ba, rfl, _⟩, hs, hnext⟩ := h.store (by omega) (by omega) hh6 hh7 hh8
      simp only [fillD, hh6, hh7, Option.getD_some, dstAt, List.getElem?_cons_succ, List.getElem?_cons_zero, Option.bind_some, Option.bind_none, Act.put, List.setIfInBounds_toArray, List.set_cons_zero, List.set_cons_succ] at haf
      subst haf
      have k0 := hs.k0
      have f0 := hs.f0
      have Hs3 : Hid (St K _ (blk bv (.cells #[(.pointer (some ⟨ba, 0, none⟩))] 175) :: R')) := Lib.hid (hs.setL 0 (.pointer (some ⟨ba, 0, none⟩)))
      have Hn := Lib.hid hnext
      clear hs hnext hcl hd2 h hh6 hh7 hh8
      go_wp2
      exact ⟨rfl, undef, rfl, Hn.out _ Hs3.out⟩
  case hQB =>
  intro ρ W2 h hall
  obtain ⟨bv, v, C, hh6, hh7, ⟨v8, hh8⟩, hΦ, hs⟩ := h.last hall
  simp only [fillD, hh6, hh7, hh8, Option.getD_some, dstAt, List.getElem?_cons_succ, List.getElem?_cons_zero, Option.bind_some, Option.bind_none, Act.put, List.setIfInBounds_toArray, List.set_cons_zero, List.set_cons_succ]
  clear h hall hh6 hh7 hh8 Hs
  obtain ⟨ba, rfl, rfl⟩ := hΦ
  have hs : St K W2 (blk bv (.cells #[(.pointer (some ⟨ba, 0, none⟩))] 175) :: acqC ba (d.node id 0) acq0 :: blk (bk + 1) (.cells #[.int .u64 id] 23) :: blk bk (.cells #[(.pointer (some ⟨b, 0, none⟩))] 37) :: blk b (.cells (nx :: .bool true :: lkTl d key h va).toArray 125) :: F) := hs
  have kv := hs.k0
  have Q := Lib.hid (call_st (T2 := 175) (xv := (.pointer (some ⟨ba, 0, none⟩))) (f := 117) (tx := #[]) (ty := #[(.pointer (some ⟨bk, 0, none⟩)), (.pointer (some ⟨(bk + 1), 0, none⟩)), (.pointer (some ⟨bv, 0, none⟩))]) hs)
  clear hs
  go_wp2_with fail
  refine (Q.out).mono ?_
  clear Q kv
  rintro e w3 ⟨b2, b3, b5, rfl, hs⟩
  have Hs := Lib.hid (hs.re [5, 0, 4, 3, 1, 2] rfl)
  clear hs
  simp only [callFV, stV]
  go_wp2
  go_ret
  exact ⟨b2, b3, b5, ba, bk, bk + 1, bv, rfl, Hs.out⟩
set_option maxHeartbeats 1000000 in
theorem lockOwn_st {s : AcqS} {bk bi bva ba : Nat} {ii : Int} (h2 : s.pc = 2) (hs : St K w (blk b (.cells (nx :: .bool true :: lkTl d key h va).toArray 125) :: blk bk (.cells #[(.pointer (some ⟨b, 0, none⟩))] 37) :: blk bi (.cells #[.int .u64 id] 23) :: blk bva (.cells #[(.pointer (some ⟨ba, 0, none⟩))] 175) :: acqC ba ii s :: F)) :
    Calls Tryz.prog 117 #[(.pointer (some ⟨bk, 0, none⟩)), (.pointer (some ⟨bi, 0, none⟩)), (.pointer (some ⟨bva, 0, none⟩))] w fun e w' => ∃ b2 b3 b5 bo bvo, e = .returned (stV (some (callFV b2 b3 b5))) ∧
    St K w' (blk b (.cells (nx :: .bool true :: lkTl d key h va).toArray 125) :: callC b2 b3 b5 (.iface 177 (.pointer (some ⟨bo, 0, none⟩))) (lkThen2 bk bvo) :: blk bk (.cells #[(.pointer (some ⟨b, 0, none⟩))] 37) :: blk bvo (.cells #[(.pointer (some ⟨bo, 0, none⟩))] 177) :: ownC bo d id (.slice none 0 0) (own0 s.word) :: slC (.slice none 0 0) pg0 :: F) := by
  go_enter Tryz.func117, Tryz.ntmps117
  go_upto_region 1 with (fail)
  have Hs := Lib.hid hs
  clear hs
  refine region_effects [false, false, false, false, false, false, false, true, true, true] [7, 8, 9] (fun | 9 => [7, 8] | _ => [])
    (CvR K (blk b (.cells (nx :: .bool true :: lkTl d key h va).toArray 125) :: blk bk (.cells #[(.pointer (some ⟨b, 0, none⟩))] 37) :: blk bi (.cells #[.int .u64 id] 23) :: blk bva (.cells #[(.pointer (some ⟨ba, 0, none⟩))] 175) :: acqC ba ii s :: F) 177 (.pointer none) 7 8 9 (fun v C => ∃ bo, v = (.pointer (some ⟨bo, 0, none⟩)) ∧ C = [ownC bo d id (.slice none 0 0) (own0 s.word), slC (.slice none 0 0) pg0]))
    (fun W => St K W (blk b (.cells (nx :: .bool true :: lkTl d key h va).toArray 125) :: blk bk (.cells #[(.pointer (some ⟨b, 0, none⟩))] 37) :: blk bi (.cells #[.int .u64 id] 23) :: blk bva (.cells #[(.pointer (some ⟨ba, 0, none⟩))] 175) :: acqC ba ii s :: F)) ?aSC (by kernel_rfl) ?hBC ?HC ?haSC ?h0C ?hIC ?hRC ?hEC ?hQC
  case hBC => as_aux_lemma => kernel_rfl
  case HC =>
    intro W2 hs
    have k0 := hs.k0
    unfold lkTl at k0
    have k1 := hs.k1
    have k2 := hs.k2
    have k3 := hs.b3.k0
    have Qw := Lib.hid (fun wz (hy : ∃ x : Ext, wz = over W2 x) => acqWord_st h2 (hs.same (Pure.below hy)).b4)
    clear hs
    simp only [withM]
    repeat (go_big_quiet_step ((go_at_call 119; exact pure_of_same (Qw.out _ ⟨_, rfl⟩))))
    refine wpQuiet_nil ?_
    rfl
  case haSC => rfl
  case h0C => exact CvR.start Hs.out
  case hIC => exact fun ρ W2 h => h.rest
  case hRC => exact fun ρ W2 W3 h hb => h.same hb
  case hEC =>
    refine ⟨?e1C, ?e2C, ?e3C, trivial⟩
    case e1C =>
      intro o ho ρ W2 h hcl hh7 hd2 af' haf
      obtain rfl := Option.some.inj ho
      replace haf : af' = fillD _ ρ [] _ := haf
      have hh9 : ρ 9 = none := hcl.none (by simp) (show 7 ∈ [7, 8] by simp) hh7
      obtain ⟨X, hs, hnext⟩ := h.call (by omega) (by omega) hh7 hh9
      simp only [fillD] at haf
      subst haf
      have Hn := Lib.hid hnext
      clear hnext hcl hd2 hh7 hh9 h
      go_wp2_with fail
      refine (newOwn_st (d := d) (id := id) (word := s.word) hs).mono ?_
      rintro e W3 ⟨bo, rfl, hs'⟩
      have Hs' := Lib.hid hs'
      clear hs hs'
      go_wp2
      exact ⟨rfl, _, rfl, Hn.out _ _ W3 ⟨bo, rfl, rfl⟩ Hs'.out⟩
    case e2C =>
      intro o ho ρ W2 h hcl hh8 hd2 af' haf
      obtain rfl := Option.some.inj ho
      replace haf : af' = fillD _ ρ [] _ := haf
      have hh9 : ρ 9 = none := hcl.none (by simp) (show 8 ∈ [7, 8] by simp) hh8
      have Hn := Lib.hid (h.var (by omega) (by omega) hh8 hh9)
      simp only [fillD] at haf
      subst haf
      clear hcl hd2 hh8 hh9 h
      go_wp2
      exact ⟨rfl, _, rfl, Hn.out⟩
    case e3C =>
      intro o ho ρ W2 h hcl hh9 hd2 af' haf
      obtain rfl := Option.some.inj ho
      replace haf : af' = fillD _ ρ [7, 8] _ := haf
      obtain ⟨v7, hh7⟩ := Option.isSome_iff_exists.1 (hd2 7 (by show _ ∈ [7, 8]; simp))
      obtain ⟨v8, hh8⟩ := Option.isSome_iff_exists.1 (hd2 8 (by show _ ∈ [7, 8]; simp))
      obtain ⟨bv, R', rfl, ⟨C, bo, rfl, _⟩, hs, hnext⟩ := h.store (by omega) (by omega) hh7 hh8 hh9
      simp only [fillD, hh7, hh8, Option.getD_some, dstAt, List.getElem?_cons_succ, List.getElem?_cons_zero, Option.bind_some, Option.bind_none, Act.put, List.setIfInBounds_toArray, List.set_cons_zero, List.set_cons_succ] at haf
      subst haf
      have k0 := hs.k0
      have f0 := hs.f0
      have Hs3 : Hid (St K _ (blk bv (.cells #[(.pointer (some ⟨bo, 0, none⟩))] 177) :: R')) := Lib.hid (hs.setL 0 (.pointer (some ⟨bo, 0, none⟩)))
      have Hn := Lib.hid hnext
      clear hs hnext hcl hd2 h hh7 hh8 hh9
      go_wp2
      exact ⟨rfl, undef, rfl, Hn.out _ Hs3.out⟩
  case hQC =>
  intro ρ W2 h hall
  obtain ⟨bv, v, C, hh7, hh8, ⟨v9, hh9⟩, hΦ, hs⟩ := h.last hall
  simp only [fillD, hh7, hh8, hh9, Option.getD_some, dstAt, List.getElem?_cons_succ, List.getElem?_cons_zero, Option.bind_some, Option.bind_none, Act.put, List.setIfInBounds_toArray, List.set_cons_zero, List.set_cons_succ]
  clear h hall hh7 hh8 hh9 Hs
  obtain ⟨bo, rfl, rfl⟩ := hΦ
  have hs : St K W2 (blk bv (.cells #[(.pointer (some ⟨bo, 0, none⟩))] 177) :: ownC bo d id (.slice none 0 0) (own0 s.word) :: slC (.slice none 0 0) pg0 :: blk b (.cells (nx :: .bool true :: lkTl d key h va).toArray 125) :: blk bk (.cells #[(.pointer (some ⟨b, 0, none⟩))] 37) :: blk bi (.cells #[.int .u64 id] 23) :: blk bva (.cells #[(.pointer (some ⟨ba, 0, none⟩))] 175) :: acqC ba ii s :: F) := hs
  have kv := hs.k0
  have Q := Lib.hid (call_st (T2 := 177) (xv := (.pointer (some ⟨bo, 0, none⟩))) (f := 120) (tx := #[]) (ty := #[(.pointer (some ⟨bk, 0, none⟩)), (.pointer (some ⟨bv, 0, none⟩))]) hs)
  clear hs
  go_wp2_with fail
  refine (Q.out).mono ?_
  clear Q kv
  rintro e w3 ⟨b2, b3, b5, rfl, hs⟩
  have Hs := Lib.hid ((hs.re [6, 7, 8, 4, 0, 5, 1, 2, 3] rfl).tail.tail.tail)
  clear hs
  simp only [callFV, stV]
  go_wp2
  go_ret
  exact ⟨b2, b3, b5, bo, bv, rfl, Hs.out⟩
def RelΦ (i word : Int) (v : Value) (C : List Comp) : Prop := ∃ br bi bw, v = (.pointer (some ⟨br, 0, none⟩)) ∧ C = relL br bi bw i word 0
/-- The node is kept, or given back. -/
def JdP (K : Know) (b : Nat) (d : Cfg) (key : ByteArray) (nx : Value) (h0 : InH) (va0 : Value) (h : InH) (a : Option Addr) (c : Nat) (F : List Comp) (e : Ending) (w' : World) : Prop :=
  (pgIn key h.pg = true ∧ e = .returned .nilFunc ∧ St K w' (blk b (.cells (nx :: .bool true :: lkTl d key h (.slice a h.pg.sl.length c)).toArray 125) :: slC (.slice a h.pg.sl.length c) h.pg :: F)) ∨
  (pgIn key h.pg = false ∧ ∃ b2 b3 b5 br bi bw bk bh, e = .returned (stV (some (callFV b2 b3 b5))) ∧ St K w' (blk b (.cells (nx :: .bool true :: lkTl d key h0 va0).toArray 125) :: callC b2 b3 b5 (.iface 47 (.pointer (some ⟨br, 0, none⟩))) (lkThen3 bk bh) :: ([blk bk (.cells #[(.pointer (some ⟨b, 0, none⟩))] 37), blk bh (.cells #[.int .u64 (h).id, .int .u64 (h).word, .int .i64 (h).pg.lev, (.slice a h.pg.sl.length c), .string (h).pg.hi, .bool (h).pg.la, .int .u64 (h).pg.ri] 45)] ++ (relL br bi bw (d.node h.id 0) h.word 0 ++ F))))
set_option maxHeartbeats 2000000 in
theorem lockJudge_st {h0 : InH} {va0 : Value} {a : Option Addr} {c : Nat} (hd : d.Ok) (hid : 0 ≤ h.id ∧ h.id < 18446744073709551616) (hs : St K w (blk b (.cells (nx :: .bool true :: lkTl d key h0 va0).toArray 125) :: slC (.slice a h.pg.sl.length c) h.pg :: F)) :
    Calls Tryz.prog 121 #[(.pointer (some ⟨b, 0, none⟩)), (.agg #[.int .u64 (h).id, .int .u64 (h).word, .int .i64 (h).pg.lev, (.slice a h.pg.sl.length c), .string (h).pg.hi, .bool (h).pg.la, .int .u64 (h).pg.ri])] w (JdP K b d key nx h0 va0 h a c F) := by
  have hs := (hs.made (.cells #[(.pointer (some ⟨b, 0, none⟩))] 37)).made (.cells #[.int .u64 (h).id, .int .u64 (h).word, .int .i64 (h).pg.lev, (.slice a h.pg.sl.length c), .string (h).pg.hi, .bool (h).pg.la, .int .u64 (h).pg.ri] 45)
  simp only [World.size_alloc] at hs
  obtain ⟨id, word, pg⟩ := h
  simp only at hid hs
  have q := fun w => within_any key ⟨#[]⟩ pg.hi pg.la w
  rw [klt_empty, Bool.not_false, Bool.true_and] at q
  obtain ⟨inb, hinb⟩ : ∃ inb, inb = (pg.la || klt key pg.hi) := ⟨_, rfl⟩
  rw [← hinb] at q
  have Hinb := Lib.hid hinb
  have Qw := Lib.hid q
  clear q hinb
  go_enter Tryz.func121, Tryz.ntmps121
  go_upto_region 1 with (fail)
  obtain ⟨bk, hbk⟩ : ∃ bk, bk = w.heap.size := ⟨_, rfl⟩
  rw [← hbk] at hs ⊢
  clear hbk
  refine wp_ck hs ?_
  clear hs
  intro w1 hs
  go_cut [15] from 999 to 0 (fun v15 wx => v15 = .bool inb ∧ St K wx (blk (bk + 1) (.cells #[.int .u64 ((⟨id, word, pg⟩ : InH)).id, .int .u64 ((⟨id, word, pg⟩ : InH)).word, .int .i64 ((⟨id, word, pg⟩ : InH)).pg.lev, (.slice a pg.sl.length c), .string ((⟨id, word, pg⟩ : InH)).pg.hi, .bool ((⟨id, word, pg⟩ : InH)).pg.la, .int .u64 ((⟨id, word, pg⟩ : InH)).pg.ri] 45) :: blk bk (.cells #[(.pointer (some ⟨b, 0, none⟩))] 37) :: blk b (.cells (nx :: .bool true :: lkTl d key h0 va0).toArray 125) :: slC (.slice a pg.sl.length c) pg :: F))
  case first =>
    have k0 := hs.k0
    have k1 := hs.k1
    have k2 := hs.k2
    unfold lkTl at k2
    refine region_pure (by kernel_rfl) (by as_aux_lemma => kernel_rfl) ?_
    repeat (go_big_quiet_step ((go_at_call 138; exact pure_of_same (Qw.out _))))
    refine wpQuiet_nil ?_
    intro w5 hb5
    have Hs := Lib.hid (hs.same hb5)
    clear hb5 hs k0 k1 k2
    go_wp2
    go_meet
    exact ⟨rfl, Hs.out⟩
  case rest =>
  clear hs
  obtain ⟨rfl, hs⟩ := hcut
  apply_assumption
  rcases Bool.eq_false_or_eq_true inb with h | h
  · rw [h]
    have Hin : Hid (pgIn key pg = true) := Lib.hid (by rw [← h, Hinb.out]; rfl)
    clear h
    have k0 := hs.k0
    have k1 := hs.k1
    have hs := hs.b2
    have kl := hs.k0
    have fl := hs.f0
    unfold lkTl at kl
    have Hs := Lib.hid (((((((hs.setL 10 (.int .u64 id)).setL 11 (.int .u64 word)).setL 12 (.int .i64 pg.lev)).setL 13 (.slice a pg.sl.length c)).setL 14 (.string pg.hi)).setL 15 (.bool pg.la)).setL 16 (.int .u64 pg.ri))
    clear hs
    go_wp2
    go_ret
    exact .inl ⟨Hin.out, rfl, ((show St K _ (blk b (.cells (nx :: .bool true :: lkTl d key (⟨id, word, pg⟩ : InH) (.slice a pg.sl.length c)).toArray 125) :: _ :: _ :: _ :: F) from Hs.out).re [1, 2, 0, 3] rfl).tail.tail⟩
  · rw [h]
    have Hin : Hid (pgIn key pg = false) := Lib.hid (by rw [← h, Hinb.out]; rfl)
    clear h
    go_upto_region 4 with (fail)
    have Hs := Lib.hid hs
    clear hs
    refine region_effects [false, false, false, false, false, false, false, false, false, true, true, false, true, true] [9, 10, 12, 13] (fun | 10 => [9] | 12 => [10] | 13 => [12] | _ => [])
      (GR K (blk (bk + 1) (.cells #[.int .u64 ((⟨id, word, pg⟩ : InH)).id, .int .u64 ((⟨id, word, pg⟩ : InH)).word, .int .i64 ((⟨id, word, pg⟩ : InH)).pg.lev, (.slice a pg.sl.length c), .string ((⟨id, word, pg⟩ : InH)).pg.hi, .bool ((⟨id, word, pg⟩ : InH)).pg.la, .int .u64 ((⟨id, word, pg⟩ : InH)).pg.ri] 45) :: blk bk (.cells #[(.pointer (some ⟨b, 0, none⟩))] 37) :: blk b (.cells (nx :: .bool true :: lkTl d key h0 va0).toArray 125) :: slC (.slice a pg.sl.length c) pg :: F) [9, 10, 12, 13] (RcΦ 47 (lkThen3 bk (bk + 1)) (RelΦ (d.node id 0) word) 9 10 12 13))
      (fun W => St K W (blk (bk + 1) (.cells #[.int .u64 ((⟨id, word, pg⟩ : InH)).id, .int .u64 ((⟨id, word, pg⟩ : InH)).word, .int .i64 ((⟨id, word, pg⟩ : InH)).pg.lev, (.slice a pg.sl.length c), .string ((⟨id, word, pg⟩ : InH)).pg.hi, .bool ((⟨id, word, pg⟩ : InH)).pg.la, .int .u64 ((⟨id, word, pg⟩ : InH)).pg.ri] 45) :: blk bk (.cells #[(.pointer (some ⟨b, 0, none⟩))] 37) :: blk b (.cells (nx :: .bool true :: lkTl d key h0 va0).toArray 125) :: slC (.slice a pg.sl.length c) pg :: F)) ?aSD (by kernel_rfl) ?hBD ?HD ?haSD ?h0D ?hID ?hRD ?hED ?hQD
    case hBD => as_aux_lemma => kernel_rfl
    case HD =>
      intro W2 hs
      have k0 := hs.k0
      have k1 := hs.k1
      have k2 := hs.k2
      unfold lkTl at k2
      have Ql := Lib.hid (fun w => latch_any d hd id hid.1 hid.2 w)
      clear hs
      simp only [withM]
      repeat (go_big_quiet_step ((go_at_call 69; exact pure_of (Ql.out _))))
      refine wpQuiet_nil ?_
      rfl
    case haSD => rfl
    case h0D => exact GR.start Hs.out
    case hID => exact fun ρ W2 h => h.rest
    case hRD => exact fun ρ W2 W3 h hb => h.same hb
    case hED =>
      refine ⟨?e1D, ?e2D, ?e3D, ?e4D, trivial⟩
      case e1D =>
        intro o ho ρ W2 h hcl hh9 hd2 af' haf
        obtain rfl := Option.some.inj ho
        replace haf : af' = fillD _ ρ [] _ := haf
        obtain ⟨C, R', hx1, hs, hnext⟩ := h.step RcΦ.mono 9 [] (by decide) (by decide) (by decide) hh9 (by simp)
        simp only [fillD] at haf
        subst haf
        have Hn := Lib.hid hnext
        clear hnext hx1 h hcl hd2 hh9
        have Q := Lib.hid (newRelease_st (i := d.node id 0) (word := word) hs)
        clear hs
        go_wp2_with fail
        refine (Q.out).mono ?_
        rintro e W3 ⟨br, bi, bw, rfl, hs'⟩
        have Hs' := Lib.hid hs'
        clear hs' Q
        go_wp2
        exact ⟨rfl, _, rfl, Hn.out _ _ W3 ⟨br, bi, bw, rfl, rfl⟩ Hs'.out⟩
      case e2D =>
        intro o ho ρ W2 h hcl hh10 hd2 af' haf
        obtain rfl := Option.some.inj ho
        replace haf : af' = fillD _ ρ [9] _ := haf
        obtain ⟨v9, hh9⟩ := Option.isSome_iff_exists.1 (hd2 9 (by show _ ∈ [9]; simp))
        simp only [fillD, hh9, Option.getD_some, dstAt, List.getElem?_cons_succ, List.getElem?_cons_zero, Option.bind_some, Option.bind_none, Act.put, List.setIfInBounds_toArray, List.set_cons_zero, List.set_cons_succ] at haf
        subst haf
        have H := Lib.hid (h.know RcΦ.mono 10 (by decide) (by simp) hh10 (.iface 47 v9) ⟨⟨v9, upd_keep hh10 hh9, rfl⟩, rfl⟩)
        clear h hcl hd2 hh10 hh9
        go_wp2
        exact ⟨rfl, _, rfl, H.out⟩
      case e3D =>
        intro o ho ρ W2 h hcl hh12 hd2 af' haf
        obtain rfl := Option.some.inj ho
        replace haf : af' = fillD _ ρ [10] _ := haf
        obtain ⟨v10, hh10⟩ := Option.isSome_iff_exists.1 (hd2 10 (by show _ ∈ [10]; simp))
        obtain ⟨cs8, R8, ⟨⟨u1, hu1, rfl⟩, _⟩, _⟩ := h.at 10 (by simp) hh10
        obtain ⟨C, R', hx1, hs, hnext⟩ := h.step RcΦ.mono 12 [] (by decide) (by decide) (by decide) hh12 (by simp)
        simp only [fillD, hh10, Option.getD_some, dstAt, List.getElem?_cons_succ, List.getElem?_cons_zero, Option.bind_some, Option.bind_none, Act.put, List.setIfInBounds_toArray, List.set_cons_zero, List.set_cons_succ] at haf
        subst haf
        have hu2 : ∀ v, upd ρ 12 v 9 = some u1 := fun v => upd_keep hh12 hu1
        have Hn := Lib.hid hnext
        have Hu := Lib.hid hu2
        clear hnext hx1 h hcl hd2 hh10 hh12 hu1 hu2
        have Q := Lib.hid (call_st (T2 := 47) (xv := u1) (f := 154) (tx := #[]) (ty := #[(.pointer (some ⟨bk, 0, none⟩)), (.pointer (some ⟨(bk + 1), 0, none⟩))]) hs)
        clear hs
        go_wp2_with fail
        refine (Q.out).mono ?_
        rintro e W3 ⟨b2, b3, b5, rfl, hs'⟩
        have Hs' := Lib.hid hs'
        clear hs' Q
        simp only [callFV, stV]
        go_wp2
        exact ⟨rfl, _, rfl, Hn.out _ [_] W3 ⟨u1, b2, b3, b5, Hu.out _, rfl, rfl⟩ Hs'.out⟩
      case e4D =>
        intro o ho ρ W2 h hcl hh13 hd2 af' haf
        obtain rfl := Option.some.inj ho
        replace haf : af' = fillD _ ρ [12] _ := haf
        obtain ⟨v12, hh12⟩ := Option.isSome_iff_exists.1 (hd2 12 (by show _ ∈ [12]; simp))
        obtain ⟨cs8, R8, ⟨u1, b2, b3, b5, hu1, rfl, _⟩, _⟩ := h.at 12 (by simp) hh12
        simp only [fillD, hh12, Option.getD_some, dstAt, List.getElem?_cons_succ, List.getElem?_cons_zero, Option.bind_some, Option.bind_none, Act.put, List.setIfInBounds_toArray, List.set_cons_zero, List.set_cons_succ] at haf
        subst haf
        have H := Lib.hid (h.know RcΦ.mono 13 (by decide) (by simp) hh13 (stV (some (callFV b2 b3 b5))) ⟨⟨b2, b3, b5, rfl, upd_keep hh13 hh12⟩, rfl⟩)
        clear h hcl hd2 hh12 hh13 hu1
        simp only [callFV, stV] at H ⊢
        go_wp2
        exact ⟨rfl, _, rfl, H.out⟩
    case hQD =>
    intro ρ W2 h hall
    obtain ⟨u1, b2, b3, b5, C, hΦ, hh9, hh10, hh12, hh13, hs⟩ := RcΦ.last (by decide) h hall
    simp only [fillD, hh9, hh10, hh12, hh13, Option.getD_some, dstAt, List.getElem?_cons_succ, List.getElem?_cons_zero, Option.bind_some, Option.bind_none, Act.put, List.setIfInBounds_toArray, List.set_cons_zero, List.set_cons_succ]
    clear h hall hh9 hh10 hh12 hh13 Hs
    obtain ⟨br, bi, bw, rfl, rfl⟩ := hΦ
    have Hs := Lib.hid hs
    clear hs
    simp only [callFV, stV]
    go_wp2
    go_ret
    refine .inr ⟨Hin.out, b2, b3, b5, br, bi, bw, bk, bk + 1, rfl, ?_⟩
    have hs : St K W2 (callC b2 b3 b5 _ _ :: blk br _ :: blk bi _ :: blk bw _ :: blk (bk + 1) _ :: blk bk _ :: blk b (.cells (nx :: .bool true :: lkTl d key h0 va0).toArray 125) :: slC (.slice a pg.sl.length c) pg :: F) := Hs.out
    exact (hs.re [7, 6, 0, 5, 4, 1, 2, 3] rfl).tail
theorem JdP.same {K : Know} {b : Nat} {d : Cfg} {key : ByteArray} {nx : Value} {h0 : InH} {va0 : Value} {h : InH} {a : Option Addr} {c : Nat} {F : List Comp} {e : Ending} {W W' : World} (hj : JdP K b d key nx h0 va0 h a c F e W) (hb : Below W.heap.size W W') : JdP K b d key nx h0 va0 h a c F e W' := by
  rcases hj with ⟨h1, h2, hs⟩ | ⟨h1, b2, b3, b5, br, bi, bw, bk, bh, h2, hs⟩
  · exact .inl ⟨h1, h2, hs.same hb⟩
  · exact .inr ⟨h1, b2, b3, b5, br, bi, bw, bk, bh, h2, hs.same hb⟩
theorem JdP.rest {K : Know} {b : Nat} {d : Cfg} {key : ByteArray} {nx : Value} {h0 : InH} {va0 : Value} {h : InH} {a : Option Addr} {c : Nat} {F : List Comp} {e : Ending} {W : World} (hj : JdP K b d key nx h0 va0 h a c F e W) : St K W F := by
  rcases hj with ⟨h1, h2, hs⟩ | ⟨h1, b2, b3, b5, br, bi, bw, bk, bh, h2, hs⟩
  · exact hs.tail.tail
  · exact (show St K W (_ :: _ :: _ :: _ :: _ :: _ :: _ :: F) from hs).tail.tail.tail.tail.tail.tail.tail
def HlM (K : Know) (b : Nat) (d : Cfg) (key : ByteArray) (nx : Value) (h0 : InH) (va0 : Value) (h : InH) (F : List Comp) (v : Value) (W : World) : Prop :=
  ∃ (a : Option Addr) (c : Nat), v = (.agg #[.int .u64 (h).id, .int .u64 (h).word, .int .i64 (h).pg.lev, (.slice a h.pg.sl.length c), .string (h).pg.hi, .bool (h).pg.la, .int .u64 (h).pg.ri]) ∧ St K W (blk b (.cells (nx :: .bool true :: lkTl d key h0 va0).toArray 125) :: slC (.slice a h.pg.sl.length c) h.pg :: F)
def JdM (K : Know) (b : Nat) (d : Cfg) (key : ByteArray) (nx : Value) (h0 : InH) (va0 : Value) (h : InH) (F : List Comp) (u : Value) (W : World) : Prop :=
  ∃ (a : Option Addr) (c : Nat), JdP K b d key nx h0 va0 h a c F (.returned u) W
set_option maxHeartbeats 2000000 in
theorem lockRead_st {h0 : InH} {va0 : Value} {bk bvo bo left : Nat} {word : Int} {pg : Pg} {av : Option Addr} {cv : Nat} (hd : d.Ok) (hid : 0 ≤ id ∧ id < 18446744073709551616) (hn : pg.sl.length ≤ 1000000)
    (hs : St K w (blk b (.cells (nx :: .bool true :: lkTl d key h0 va0).toArray 125) :: blk bk (.cells #[(.pointer (some ⟨b, 0, none⟩))] 37) :: blk bvo (.cells #[(.pointer (some ⟨bo, 0, none⟩))] 177) :: ownC bo d id (.slice av pg.sl.length cv) ⟨6, pg, left, word, false⟩ :: slC (.slice av pg.sl.length cv) pg :: F)) :
    Calls Tryz.prog 120 #[(.pointer (some ⟨bk, 0, none⟩)), (.pointer (some ⟨bvo, 0, none⟩))] w fun e w' => ∃ (a : Option Addr) (c : Nat), JdP K b d key nx h0 va0 ⟨id, word, pg⟩ a c (blk bk (.cells #[(.pointer (some ⟨b, 0, none⟩))] 37) :: blk bvo (.cells #[(.pointer (some ⟨bo, 0, none⟩))] 177) :: ownC bo d id (.slice av pg.sl.length cv) ⟨6, pg, left, word, false⟩ :: slC (.slice av pg.sl.length cv) pg :: F) e w' := by
  have Hs := Lib.hid hs
  clear hs
  go_enter Tryz.func120, Tryz.ntmps120
  go_upto_region 1 with (fail)
  refine region_three [false, false, true, true, true] 2 3 4
    (fun W => St K W (blk b (.cells (nx :: .bool true :: lkTl d key h0 va0).toArray 125) :: blk bk (.cells #[(.pointer (some ⟨b, 0, none⟩))] 37) :: blk bvo (.cells #[(.pointer (some ⟨bo, 0, none⟩))] 177) :: ownC bo d id (.slice av pg.sl.length cv) ⟨6, pg, left, word, false⟩ :: slC (.slice av pg.sl.length cv) pg :: F))
    (HlM K b d key nx h0 va0 ⟨id, word, pg⟩ (blk bk (.cells #[(.pointer (some ⟨b, 0, none⟩))] 37) :: blk bvo (.cells #[(.pointer (some ⟨bo, 0, none⟩))] 177) :: ownC bo d id (.slice av pg.sl.length cv) ⟨6, pg, left, word, false⟩ :: slC (.slice av pg.sl.length cv) pg :: F))
    (fun _ u W => JdM K b d key nx h0 va0 ⟨id, word, pg⟩ (blk bk (.cells #[(.pointer (some ⟨b, 0, none⟩))] 37) :: blk bvo (.cells #[(.pointer (some ⟨bo, 0, none⟩))] 177) :: ownC bo d id (.slice av pg.sl.length cv) ⟨6, pg, left, word, false⟩ :: slC (.slice av pg.sl.length cv) pg :: F) u W)
    (fun _ u x W => x = u ∧ JdM K b d key nx h0 va0 ⟨id, word, pg⟩ (blk bk (.cells #[(.pointer (some ⟨b, 0, none⟩))] 37) :: blk bvo (.cells #[(.pointer (some ⟨bo, 0, none⟩))] 177) :: ownC bo d id (.slice av pg.sl.length cv) ⟨6, pg, left, word, false⟩ :: slC (.slice av pg.sl.length cv) pg :: F) u W)
    (fun W => ∃ cs, St K W (blk bk (.cells #[(.pointer (some ⟨b, 0, none⟩))] 37) :: blk bvo (.cells #[(.pointer (some ⟨bo, 0, none⟩))] 177) :: cs)) ?aS (by decide) (by kernel_rfl) ?hB ?H ?haS Hs.out ?hI ?hR ?hE1 ?hE2 ?hE3 ?hQ
  case hB => as_aux_lemma => kernel_rfl
  case H =>
    rintro W2 ⟨cs, hs⟩
    have k0 := hs.k0
    have k1 := hs.k1
    clear hs
    simp only [withM]
    repeat (go_big_quiet_step (fail))
    refine wpQuiet_nil ?_
    rfl
  case haS => rfl
  case hI => exact ⟨fun W h => ⟨_, h.tail⟩, fun v W ⟨_, _, _, h⟩ => ⟨_, h.tail.tail⟩, fun v u W ⟨_, _, h⟩ => ⟨_, h.rest⟩, fun v u x W ⟨_, _, _, h⟩ => ⟨_, h.rest⟩⟩
  case hR => exact ⟨fun W W' h hb => h.same hb, fun v W W' ⟨a, c, e, h⟩ hb => ⟨a, c, e, h.same hb⟩, fun v u W W' ⟨a, c, h⟩ hb => ⟨a, c, h.same hb⟩, fun v u x W W' ⟨e, a, c, h⟩ hb => ⟨e, a, c, h.same hb⟩⟩
  case hE1 =>
    intro R2' o ho ρ W2 hs hk af haf
    obtain rfl := Option.some.inj ho
    subst haf
    have Hk := Lib.hid hk
    clear hk
    have Q := Lib.hid (ownHeld_st hn (hs.re [3, 4, 0, 1, 2] rfl))
    clear hs
    go_wp2_with fail
    refine (Q.out).mono ?_
    rintro e w1 ⟨va1, rfl, hs⟩
    obtain ⟨a1, c1, rfl, _, _⟩ := hs.row_read
    have Hs3 := Lib.hid (hs.re [3, 0, 4, 5, 1, 2] rfl)
    clear hs Q
    go_wp2
    exact ⟨rfl, _, rfl, Hk.out _ _ ⟨a1, c1, rfl, Hs3.out⟩⟩
  case hE2 =>
    rintro R2' o ho ρ v W2 ⟨a1, c1, rfl, hs⟩ hk af haf
    obtain rfl := Option.some.inj ho
    have Hk := Lib.hid hk
    clear hk
    simp only [dstAt, List.getElem?_cons_succ, List.getElem?_cons_zero, Option.bind_some, Act.put, List.setIfInBounds_toArray, List.set_cons_zero, List.set_cons_succ] at haf
    subst haf
    have Q := Lib.hid (lockJudge_st (h := ⟨id, word, pg⟩) hd hid hs)
    clear hs
    go_wp2_with fail
    refine (Q.out).mono ?_
    rintro e w1 hj
    clear Q
    rcases hj with ⟨h1, rfl, hs⟩ | ⟨h1, b2, b3, b5, br, bi, bw, bk', bh, rfl, hs⟩
    · have Hj := Lib.hid (show JdM K b d key nx h0 va0 ⟨id, word, pg⟩ _ .nilFunc w1 from ⟨a1, c1, .inl ⟨h1, rfl, hs⟩⟩)
      clear hs h1
      go_wp2
      exact ⟨rfl, _, rfl, Hk.out _ _ Hj.out⟩
    · have Hj := Lib.hid (show JdM K b d key nx h0 va0 ⟨id, word, pg⟩ _ (stV (some (callFV b2 b3 b5))) w1 from ⟨a1, c1, .inr ⟨h1, b2, b3, b5, br, bi, bw, bk', bh, rfl, hs⟩⟩)
      clear hs h1
      simp only [callFV, stV] at Hj ⊢
      go_wp2
      exact ⟨rfl, _, rfl, Hk.out _ _ Hj.out⟩
  case hE3 =>
    rintro R2' o ho ρ v u W2 ⟨a1, c1, hj⟩ hk af haf
    obtain rfl := Option.some.inj ho
    have Hk := Lib.hid hk
    clear hk
    simp only [dstAt, List.getElem?_cons_succ, List.getElem?_cons_zero, Option.bind_some, Act.put, List.setIfInBounds_toArray, List.set_cons_zero, List.set_cons_succ] at haf
    subst haf
    have hj0 := hj
    rcases hj with ⟨_, h1, _⟩ | ⟨_, b2, b3, b5, br, bi, bw, bk', bh, h1, _⟩
    · obtain rfl := Ending.returned.inj h1
      have Hj := Lib.hid (show JdM K b d key nx h0 va0 ⟨id, word, pg⟩ _ .nilFunc W2 from ⟨a1, c1, hj0⟩)
      clear hj0 h1
      go_wp2
      exact ⟨rfl, _, rfl, Hk.out _ _ ⟨rfl, Hj.out⟩⟩
    · obtain rfl := Ending.returned.inj h1
      have Hj := Lib.hid (show JdM K b d key nx h0 va0 ⟨id, word, pg⟩ _ (stV (some (callFV b2 b3 b5))) W2 from ⟨a1, c1, hj0⟩)
      clear hj0 h1
      simp only [callFV, stV] at Hj Hk ⊢
      go_wp2
      exact ⟨rfl, _, rfl, Hk.out _ _ ⟨rfl, Hj.out⟩⟩
  case hQ =>
    rintro v u x W2 ⟨rfl, a1, c1, hj⟩
    simp only [dstAt, List.getElem?_cons_succ, List.getElem?_cons_zero, Option.bind_some, Act.put, List.setIfInBounds_toArray, List.set_cons_zero, List.set_cons_succ]
    have hj0 := hj
    rcases hj with ⟨_, h1, _⟩ | ⟨_, b2, b3, b5, br, bi, bw, bk', bh, h1, _⟩
    · obtain rfl := Ending.returned.inj h1
      have Hj := Lib.hid hj0
      clear hj0 h1
      go_wp2
      go_ret
      exact ⟨a1, c1, Hj.out⟩
    · obtain rfl := Ending.returned.inj h1
      have Hj := Lib.hid hj0
      clear hj0 h1
      simp only [callFV, stV] at Hj ⊢
      go_wp2
      go_ret
      exact ⟨a1, c1, Hj.out⟩
set_option maxHeartbeats 1000000 in
theorem lockFound_st {h0 : InH} {va0 va1 va2 : Value} {bvf bvk bf : Nat} {B : VisB} {level : Int} {s : FdS} (hd : d.Ok) (h2 : s.pc = 2) (hid : 0 ≤ s.id ∧ s.id < 18446744073709551616) (hn : s.pg.sl.length ≤ 1000000)
    (hs : St K w (blk b (.cells (nx :: .bool true :: lkTl d key h0 va0).toArray 125) :: blk bvf (.cells #[(.pointer (some ⟨bf, 0, none⟩))] 84) :: blk bvk (.cells #[(.pointer (some ⟨b, 0, none⟩))] 37) :: (fdL bf .nilFunc B va1 va2 d key level s ++ F))) :
    Calls Tryz.prog 75 #[(.pointer (some ⟨bvf, 0, none⟩)), (.pointer (some ⟨bvk, 0, none⟩))] w fun e w' => (s.id = 0 ∧ e = .returned .nilFunc ∧ St K w' (blk b (.cells (nx :: .bool true :: lkTl d key h0 va0).toArray 125) :: F)) ∨
      (s.id ≠ 0 ∧ ∃ b2 b3 b5 ba bk bi bva, e = .returned (stV (some (callFV b2 b3 b5))) ∧
        St K w' (blk b (.cells (nx :: .bool true :: lkTl d key h0 va0).toArray 125) :: callC b2 b3 b5 (.iface 175 (.pointer (some ⟨ba, 0, none⟩))) (lkThen1 bk bi bva) :: blk bk (.cells #[(.pointer (some ⟨b, 0, none⟩))] 37) :: blk bi (.cells #[.int .u64 s.id] 23) :: blk bva (.cells #[(.pointer (some ⟨ba, 0, none⟩))] 175) :: acqC ba (d.node s.id 0) acq0 :: F)) := by
  have kf := hs.k1
  have hs1 : St K w (fdL bf .nilFunc B va1 va2 d key level s ++ (blk b (.cells (nx :: .bool true :: lkTl d key h0 va0).toArray 125) :: blk bvk (.cells #[(.pointer (some ⟨b, 0, none⟩))] 37) :: F)) := by
    have h1 : St K w ([blk b (.cells (nx :: .bool true :: lkTl d key h0 va0).toArray 125), blk bvk (.cells #[(.pointer (some ⟨b, 0, none⟩))] 37)] ++ (fdL bf .nilFunc B va1 va2 d key level s ++ F)) := (hs.re [1, 0, 2] rfl).tail
    exact h1.front
  have Q := Lib.hid (findNode_st h2 hn hs1)
  clear hs hs1
  go_enter Tryz.func75, Tryz.ntmps75
  go_wp2_with fail
  refine (Q.out).mono ?_
  clear Q kf
  rintro e w1 ⟨va3, rfl, hs⟩
  obtain ⟨a3, c3, rfl, _, _⟩ := (show St K w1 (rowC va3 69 2 s.pg.sl.length (slRow s.pg.sl) :: _) from hs).row_read
  have hs := hs.tail.dropl
  have hs := hs.pass (.cells #[.int .i64 s.pg.lev, .slice a3 s.pg.sl.length c3, .string s.pg.hi, .bool s.pg.la, .int .u64 s.pg.ri] 43)
  by_cases h0 : s.id = 0
  · have hb : (s.id == 0) = true := beq_iff_eq.2 h0
    have H0 := Lib.hid h0
    clear h0
    go_wp2
    go_ret
    exact .inl ⟨H0.out, rfl, hs.drop1⟩
  · have hb : (s.id == 0) = false := beq_eq_false_iff_ne.2 h0
    have H0 := Lib.hid h0
    clear h0
    have kv := hs.k1
    have Q := Lib.hid (lockAcquire_st hd hid hs)
    clear hs
    go_wp2_with fail
    refine (Q.out).mono ?_
    clear Q kv
    rintro e w2 ⟨b2, b3, b5, ba, bk, bi, bva, rfl, hs⟩
    have Hs := Lib.hid ((hs.re [6, 0, 1, 2, 3, 4, 5] rfl).tail)
    clear hs
    simp only [callFV, stV]
    go_wp2
    go_ret
    exact .inr ⟨H0.out, b2, b3, b5, ba, bk, bi, bva, rfl, Hs.out⟩
set_option maxHeartbeats 1000000 in
theorem lockNext_st {h0 : InH} {va0 va1 : Value} {bk bh : Nat} (hd : d.Ok) (hid : 0 ≤ h.pg.ri ∧ h.pg.ri < 18446744073709551616)
    (hs : St K w (blk b (.cells (nx :: .bool true :: lkTl d key h0 va0).toArray 125) :: blk bk (.cells #[(.pointer (some ⟨b, 0, none⟩))] 37) :: blk bh (.cells #[.int .u64 (h).id, .int .u64 (h).word, .int .i64 (h).pg.lev, va1, .string (h).pg.hi, .bool (h).pg.la, .int .u64 (h).pg.ri] 45) :: F)) :
    Calls Tryz.prog 154 #[(.pointer (some ⟨bk, 0, none⟩)), (.pointer (some ⟨bh, 0, none⟩))] w fun e w' => ∃ b2 b3 b5 ba bk bi bva, e = .returned (stV (some (callFV b2 b3 b5))) ∧
        St K w' (blk b (.cells (nx :: .bool true :: lkTl d key h0 va0).toArray 125) :: callC b2 b3 b5 (.iface 175 (.pointer (some ⟨ba, 0, none⟩))) (lkThen1 bk bi bva) :: blk bk (.cells #[(.pointer (some ⟨b, 0, none⟩))] 37) :: blk bi (.cells #[.int .u64 h.pg.ri] 23) :: blk bva (.cells #[(.pointer (some ⟨ba, 0, none⟩))] 175) :: acqC ba (d.node h.pg.ri 0) acq0 :: F) := by
  have k1 := hs.k1
  have k2 := hs.k2
  have Q := Lib.hid (lockAcquire_st hd hid (hs.re [1, 2, 0] rfl).tail.tail)
  clear hs
  go_enter Tryz.func154, Tryz.ntmps154
  go_wp2_with fail
  refine (Q.out).mono ?_
  clear Q k1 k2
  rintro e w2 ⟨b2, b3, b5, ba, bk2, bi, bva, rfl, hs⟩
  have Hs := Lib.hid hs
  clear hs
  simp only [callFV, stV]
  go_wp2
  go_ret
  exact ⟨b2, b3, b5, ba, bk2, bi, bva, rfl, Hs.out⟩
end
theorem fdStep_pc {d : Cfg} {L : List Cel} {key : ByteArray} {level : Int} {s : FdS} (h : s.pc ≤ 2) : (fdStep d L key level s).pc ≤ 2 := by
  have hgo : ∀ (x : FdS) (i : Int), (fdGo x i).pc ≤ 2 := by
    intro x i
    unfold fdGo
    split <;> simp
  unfold fdStep
  split
  · exact hgo _ _
  · split
    · unfold fdTurn
      split
      · simp
      · split
        · split
          · simp
          · exact hgo _ _
        · exact hgo _ _
    · simp
  · exact h
structure LkS.Ok (d : Cfg) (key : ByteArray) (level : Int) (L : List Cel) (s : LkS) : Prop where
  pc : s.pc ≤ 3
  fd : s.pc = 0 → s.fd.Ok d ∧ s.fd.pc ≠ 2 ∧ (s.fd.pc = 1 → (rdStep d s.fd.id L s.fd.rd).pc = 6 → PgGood level (rdStep d s.fd.id L s.fd.rd).pg) ∧
    ((fdStep d L key level s.fd).pc = 2 → (0 ≤ (fdStep d L key level s.fd).id ∧ (fdStep d L key level s.fd).id < 18446744073709551616) ∧ (fdStep d L key level s.fd).pg.sl.length ≤ 1000000)
  id : 1 ≤ s.pc → 0 ≤ s.id ∧ s.id < 18446744073709551616
  aq : s.pc = 1 → s.aq.Ok ∧ s.aq.pc ≠ 2
  ow : s.pc = 2 → s.ow.OkO d ∧ s.ow.pc ≠ 6
  rl : s.pc = 3 → (0 ≤ s.ow.word ∧ s.ow.word < 18446744073709551616) ∧ 0 ≤ s.ow.pg.ri ∧ s.ow.pg.ri < 18446744073709551616
theorem method_acq (n : Nat) (a : Addr) (w : World) : (method (n + 1) 175 (.pointer (some a)) "Step").run Tryz.prog w = .ok (213, .pointer (some a)) w := by kernel_rfl
theorem method_own (n : Nat) (a : Addr) (w : World) : (method (n + 1) 177 (.pointer (some a)) "Step").run Tryz.prog w = .ok (214, .pointer (some a)) w := by kernel_rfl
theorem method_rel (n : Nat) (a : Addr) (w : World) : (method (n + 1) 47 (.pointer (some a)) "Step").run Tryz.prog w = .ok (22, .pointer (some a)) w := by kernel_rfl
section
variable {K : Know} {w : World} {F : List Comp} {b bm bc : Nat} {d : Cfg} {key : ByteArray} {level : Int} {L : List Cel} {acc : Nat} {s : LkS} {C : List Comp}
/-- What a step of Lock leaves: the position, the cells behind it, the other parts. -/
def LkNext (d : Cfg) (key : ByteArray) (level : Int) (b : Nat) (s : LkS) (o : Option FV) (tl : List Value) (C2 : List Comp) : Prop :=
  ∃ tl2, tl = .bool true :: tl2 ∧ o.isNone = decide (4 ≤ s.pc) ∧ LkRep d key level b s (blk b (.cells (stV o :: tl).toArray 125) :: C2)
theorem lkKey {o : Option FV} {tl' : List Value} {C2 : List Comp} {L1 : List Cel} {w' : World} {e : Ending} {s s' : LkS} (he : e = .returned (.bool o.isNone)) (hs : St K w' (blk b (.cells (stV o :: tl').toArray 125) :: (C2 ++ memC bm bc L1 (acc + 1) :: F))) (hn : LkNext d key level b s' o tl' C2)
    (heq : lokStep d key level L s = (s', L1)) : ∃ C', e = .returned (.bool (decide (4 ≤ (lokStep d key level L s).1.pc))) ∧ LkRep d key level b (lokStep d key level L s).1 C' ∧ St K w' (C' ++ memC bm bc (lokStep d key level L s).2 (acc + 1) :: F) := by
  obtain ⟨tl2, _, ho, hr⟩ := hn
  rw [heq]
  exact ⟨_, by rw [he, ho], hr, hs⟩
set_option maxHeartbeats 1000000 in
theorem lockRun_st (hd : d.Ok) (hL : CelsOk L) (ha : acc ≤ 1000000000000) (hok : s.Ok d key level L) (hh : s.h = hd0) (hrep : LkRep d key level b s C) (hs : St K w (C ++ memC bm bc L acc :: F)) :
    Calls Tryz.prog 77 #[(.pointer (some ⟨b, 0, none⟩)), (.pointer (some ⟨bm, 0, none⟩))] w fun e w' => ∃ C', e = .returned (.bool (decide (4 ≤ (lokStep d key level L s).1.pc))) ∧ LkRep d key level b (lokStep d key level L s).1 C' ∧ St K w' (C' ++ memC bm bc (lokStep d key level L s).2 (acc + 1) :: F) := by
  obtain ⟨pc, fd, id, aq, ow, h⟩ := s
  obtain ⟨hpc, hfd, hid, haq, how, hrl⟩ := hok
  simp only at hpc hfd hid haq how hrl hh
  subst hh
  match pc, hpc, hrep, hfd, hid, haq, how, hrl with
  | 0, _, hrep, hfd, hid, haq, how, hrl =>
    obtain ⟨b2, b3, b5, bf, bvf, bvk, B, va1, va2, rfl⟩ := hrep
    obtain ⟨f1, f2, f3, f4⟩ := hfd rfl
    have hf2 := fdStep_pc f1.pc (L := L) (key := key) (level := level) (d := d)
    refine (StepsTo.run_call (R := fun fin C' => fin = decide (2 ≤ (fdStep d L key level fd).pc) ∧ ∃ B' va1' va2', C' = fdL bf (stV (fdPv bf B' (fdStep d L key level fd).pc)) B' va1' va2' d key level (fdStep d L key level fd))
      (L' := L) (acc' := acc + 1) (V := [blk bvf (.cells #[(.pointer (some ⟨bf, 0, none⟩))] 84), blk bvk (.cells #[(.pointer (some ⟨b, 0, none⟩))] 37)]) (C := fdL bf (stV (fdPv bf B fd.pc)) B va1 va2 d key level fd)
      (R2 := fun o tl' C2 => (fdStep d L key level fd).pc = 2 ∧ LkNext d key level b (if (fdStep d L key level fd).id = 0 then ⟨4, fdStep d L key level fd, id, aq, ow, hd0⟩ else ⟨1, fdStep d L key level fd, (fdStep d L key level fd).id, acq0, ow, hd0⟩) o tl' C2)
      (fun w F hs => ?_) (fun n w => method_find n _ w) (fun _ _ => by kernel_rfl) (fun _ _ => by kernel_rfl) ?_ w F hs).mono ?_
    · refine (findStep_st hd hL ha f1 f3 hs).mono ?_
      rintro e w' ⟨rfl, ⟨B', va1', va2'⟩, hs⟩
      rw [show fdAcc fd.pc acc = acc + 1 by unfold fdAcc; rw [if_neg f2]] at hs
      exact ⟨_, _, rfl, ⟨rfl, B', va1', va2', rfl⟩, hs⟩
    · rintro C' w1 F1 ⟨hfin, B', va1', va2', rfl⟩ hs
      have hp : (fdStep d L key level fd).pc = 2 := by
        have := of_decide_eq_true hfin.symm; omega
      obtain ⟨g1, g2⟩ := f4 hp
      generalize fdStep d L key level fd = f at *
      rw [hp] at hs
      refine (lockFound_st (level := level) hd hp g1 g2 (F := memC bm bc L (acc + 1) :: F1) hs).mono ?_
      rintro e w2 (⟨h0, rfl, hs2⟩ | ⟨h0, x2, x3, x5, ba, bk, bi, bva, rfl, hs2⟩)
      · rw [if_pos h0]
        exact ⟨none, _, [slC (.slice none 0 0) hd0.pg], rfl, ⟨hp, _, rfl, rfl, _, rfl⟩, (hs2.row_nil (T := 69) (size := 2)).b1⟩
      · rw [if_neg h0]
        exact ⟨some (callFV x2 x3 x5), _, [_, _, _, _, _], rfl, ⟨hp, _, rfl, rfl, x2, x3, x5, ba, bk, bi, bva, rfl⟩, hs2⟩
    · rintro e w' ⟨o, tl', C2, he, hs, ⟨rfl, rfl, C', ⟨hfin, B', va1', va2', rfl⟩, rfl⟩ | ⟨hp, hn⟩⟩
      · have hp : (fdStep d L key level fd).pc ≠ 2 := by
          intro h2
          rw [h2] at hfin; cases hfin
        refine lkKey he hs (s' := ⟨0, fdStep d L key level fd, id, aq, ow, hd0⟩) ⟨_, rfl, rfl, b2, b3, b5, bf, bvf, bvk, B', va1', va2', rfl⟩ ?_
        show (if _ then _ else _) = _
        rw [if_neg hp]
      · refine lkKey he hs hn ?_
        show (if _ then _ else _) = _
        rw [if_pos hp]
        split <;> rfl
  | 1, _, hrep, hfd, hid, haq, how, hrl =>
    obtain ⟨b2, b3, b5, ba, bk, bi, bva, rfl⟩ := hrep
    obtain ⟨a1, a2⟩ := haq rfl
    have hi := hid (Nat.le_refl 1)
    have hst := acqStep_ok (i := d.node id 0) hL a1
    refine (StepsTo.run_call (R := fun fin C' => fin = decide (2 ≤ (acqStep (d.node id 0) L aq).1.pc) ∧ C' = [acqC ba (d.node id 0) (acqStep (d.node id 0) L aq).1])
      (L' := (acqStep (d.node id 0) L aq).2) (acc' := acc + 1) (V := [blk bk (.cells #[(.pointer (some ⟨b, 0, none⟩))] 37), blk bi (.cells #[.int .u64 id] 23), blk bva (.cells #[(.pointer (some ⟨ba, 0, none⟩))] 175)]) (C := [acqC ba (d.node id 0) aq])
      (R2 := fun o tl' C2 => (acqStep (d.node id 0) L aq).1.pc = 2 ∧ LkNext d key level b ⟨2, fd, id, (acqStep (d.node id 0) L aq).1, own0 (acqStep (d.node id 0) L aq).1.word, hd0⟩ o tl' C2)
      (fun w F hs => ?_) (fun n w => method_acq n _ w) (fun _ _ => by kernel_rfl) (fun _ _ => by kernel_rfl) ?_ w F hs).mono ?_
    · refine (acqStep_st hL ha a1 a2 hs).mono ?_
      rintro e w' ⟨rfl, hs⟩
      exact ⟨_, _, rfl, ⟨rfl, rfl⟩, hs⟩
    · rintro C' w1 F1 ⟨hfin, rfl⟩ hs
      have hp : (acqStep (d.node id 0) L aq).1.pc = 2 := by
        have := of_decide_eq_true hfin.symm; have := hst.pc; omega
      refine (lockOwn_st hp hs).mono ?_
      rintro e w2 ⟨x2, x3, x5, bo, bvo, rfl, hs2⟩
      exact ⟨some (callFV x2 x3 x5), _, [_, _, _, _, _], rfl, ⟨hp, _, rfl, rfl, x2, x3, x5, bo, bk, bvo, _, rfl⟩, hs2⟩
    · rintro e w' ⟨o, tl', C2, he, hs, ⟨rfl, rfl, C', ⟨hfin, rfl⟩, rfl⟩ | ⟨hp, hn⟩⟩
      · have hp : (acqStep (d.node id 0) L aq).1.pc ≠ 2 := by
          intro h2
          rw [h2] at hfin; cases hfin
        refine lkKey he hs (s' := ⟨1, fd, id, (acqStep (d.node id 0) L aq).1, ow, hd0⟩) ⟨_, rfl, rfl, b2, b3, b5, ba, bk, bi, bva, rfl⟩ ?_
        show (if _ then _ else _) = _
        rw [if_neg hp]
      · refine lkKey he hs hn ?_
        show (if _ then _ else _) = _
        rw [if_pos hp]
  | 2, _, hrep, hfd, hid, haq, how, hrl =>
    obtain ⟨b2, b3, b5, bo, bk, bvo, va1, rfl⟩ := hrep
    obtain ⟨a1, a2⟩ := how rfl
    have hi := hid (by omega)
    have hst := ownStep_ok hd (id := id) hL a1
    have hfa := hd.fa2
    refine (StepsTo.run_call (R := fun fin C' => fin = decide ((ownStep d id L ow).pc = 6) ∧ ∃ (a : Option Addr) (c : Nat), C' = [ownC bo d id (.slice a (ownStep d id L ow).pg.sl.length c) (ownStep d id L ow), slC (.slice a (ownStep d id L ow).pg.sl.length c) (ownStep d id L ow).pg])
      (L' := L) (acc' := acc + 1) (V := [blk bk (.cells #[(.pointer (some ⟨b, 0, none⟩))] 37), blk bvo (.cells #[(.pointer (some ⟨bo, 0, none⟩))] 177)]) (C := [ownC bo d id va1 ow, slC va1 ow.pg])
      (R2 := fun o tl' C2 => (ownStep d id L ow).pc = 6 ∧ LkNext d key level b (if pgIn key (ownStep d id L ow).pg then ⟨4, fd, id, aq, ownStep d id L ow, ⟨id, (ownStep d id L ow).word, (ownStep d id L ow).pg⟩⟩ else ⟨3, fd, id, aq, ownStep d id L ow, hd0⟩) o tl' C2)
      (fun w F hs => ?_) (fun n w => method_own n _ w) (fun _ _ => by kernel_rfl) (fun _ _ => by kernel_rfl) ?_ w F hs).mono ?_
    · refine (ownStep_st hd hi hL ha a1 a2 hs).mono ?_
      rintro e w' ⟨va', rfl, hs⟩
      obtain ⟨a, c, rfl, _, _⟩ := (show St K w' (rowC va' 69 2 (ownStep d id L ow).pg.sl.length (slRow (ownStep d id L ow).pg.sl) :: _) from hs.b1).row_read
      exact ⟨_, [_, _], rfl, ⟨rfl, a, c, rfl⟩, hs⟩
    · rintro C' w1 F1 ⟨hfin, a, c, rfl⟩ hs
      have hp : (ownStep d id L ow).pc = 6 := of_decide_eq_true hfin.symm
      have hlen : (ownStep d id L ow).pg.sl.length ≤ 1000000 := by
        rcases hst.len with h | h <;> omega
      generalize ownStep d id L ow = o at *
      obtain ⟨opc, opg, oleft, oword, ot⟩ := o
      simp only at hp hlen
      subst hp
      refine (lockRead_st (F := memC bm bc L (acc + 1) :: F1) hd hi hlen hs).mono ?_
      rintro e w2 ⟨a3, c3, ⟨h1, rfl, hs2⟩ | ⟨h1, x2, x3, x5, br, bi, bw, bk', bh, rfl, hs2⟩⟩
      · rw [if_pos h1]
        exact ⟨none, _, [_], rfl, ⟨rfl, _, rfl, rfl, _, rfl⟩, (hs2.re [2, 3, 4, 5, 0, 1] rfl).tail.tail.tail.tail⟩
      · rw [h1, if_neg (by simp)]
        refine ⟨some (callFV x2 x3 x5), _, [_, _, _, _, _, _], rfl, ⟨rfl, _, rfl, rfl, x2, x3, x5, br, bi, bw, bk', bh, .slice a3 opg.sl.length c3, rfl⟩, ?_⟩
        exact ((show St K w2 (_ :: _ :: _ :: _ :: _ :: _ :: _ :: _ :: _ :: _ :: _ :: memC bm bc L (acc + 1) :: F1) from hs2).re [7, 8, 9, 10, 0, 1, 2, 3, 4, 5, 6] rfl).tail.tail.tail.tail
    · rintro e w' ⟨o, tl', C2, he, hs, ⟨rfl, rfl, C', ⟨hfin, a, c, rfl⟩, rfl⟩ | ⟨hp, hn⟩⟩
      · have hp : (ownStep d id L ow).pc ≠ 6 := of_decide_eq_false hfin.symm
        refine lkKey he hs (s' := ⟨2, fd, id, aq, ownStep d id L ow, hd0⟩) ⟨_, rfl, rfl, b2, b3, b5, bo, bk, bvo, _, rfl⟩ ?_
        show (if _ then _ else _) = _
        rw [if_neg hp]
      · refine lkKey he hs hn ?_
        show (if _ then _ else _) = _
        rw [if_pos hp]
        split <;> rfl
  | 3, _, hrep, hfd, hid, haq, how, hrl =>
    obtain ⟨b2, b3, b5, br, bi, bw, bk, bh, va1, rfl⟩ := hrep
    obtain ⟨a1, a2⟩ := hrl rfl
    have hi := hid (by omega)
    refine (StepsTo.run_call (R := fun fin C' => fin = true ∧ C' = relL br bi bw (d.node id 0) ow.word 1)
      (L' := putC L (d.node id 0) ⟨ltUnlock ow.word, ⟨#[]⟩, 0⟩) (acc' := acc + 1) (V := [blk bk (.cells #[(.pointer (some ⟨b, 0, none⟩))] 37), blk bh (.cells #[.int .u64 ((⟨id, ow.word, ow.pg⟩ : InH)).id, .int .u64 ((⟨id, ow.word, ow.pg⟩ : InH)).word, .int .i64 ((⟨id, ow.word, ow.pg⟩ : InH)).pg.lev, va1, .string ((⟨id, ow.word, ow.pg⟩ : InH)).pg.hi, .bool ((⟨id, ow.word, ow.pg⟩ : InH)).pg.la, .int .u64 ((⟨id, ow.word, ow.pg⟩ : InH)).pg.ri] 45)]) (C := relL br bi bw (d.node id 0) ow.word 0)
      (R2 := fun o tl' C2 => LkNext d key level b ⟨1, fd, ow.pg.ri, acq0, ow, hd0⟩ o tl' C2)
      (fun w F hs => ?_) (fun n w => method_rel n _ w) (fun _ _ => by kernel_rfl) (fun _ _ => by kernel_rfl) ?_ w F hs).mono ?_
    · refine (relStep_st a1 ha hs).mono ?_
      rintro e w' ⟨rfl, hs⟩
      exact ⟨_, _, rfl, ⟨rfl, rfl⟩, hs⟩
    · rintro C' w1 F1 ⟨_, rfl⟩ hs
      refine (lockNext_st (h := ⟨id, ow.word, ow.pg⟩) hd a2 hs).mono ?_
      rintro e w2 ⟨x2, x3, x5, ba, bk2, bi2, bva, rfl, hs2⟩
      refine ⟨some (callFV x2 x3 x5), _, [_, _, _, _, _], rfl, ⟨_, rfl, rfl, x2, x3, x5, ba, bk2, bi2, bva, rfl⟩, ?_⟩
      exact ((show St K w2 (_ :: _ :: _ :: _ :: _ :: _ :: _ :: _ :: _ :: memC bm bc _ (acc + 1) :: F1) from hs2).re [6, 7, 8, 0, 1, 2, 3, 4, 5] rfl).tail.tail.tail
    · rintro e w' ⟨o, tl', C2, he, hs, ⟨rfl, rfl, C', ⟨hfin, _⟩, rfl⟩ | hn⟩
      · cases hfin
      · exact lkKey he hs hn rfl
  | n + 4, hpc, hrep, hfd, hid, haq, how, hrl => omega
theorem lockStep_st (hd : d.Ok) (hL : CelsOk L) (ha : acc ≤ 1000000000000) (hok : s.Ok d key level L) (hh : s.h = hd0) (hrep : LkRep d key level b s C) (hs : St K w (C ++ memC bm bc L acc :: F)) :
    Calls Tryz.prog 18 #[(.pointer (some ⟨b, 0, none⟩)), (.pointer (some ⟨bm, 0, none⟩))] w fun e w' => ∃ C', e = .returned (.bool (decide (4 ≤ (lokStep d key level L s).1.pc))) ∧ LkRep d key level b (lokStep d key level L s).1 C' ∧ St K w' (C' ++ memC bm bc (lokStep d key level L s).2 (acc + 1) :: F) := by
  have Q := Lib.hid (lockRun_st hd hL ha hok hh hrep hs)
  clear hs
  go_enter Tryz.func18, Tryz.ntmps18
  go_wp2_with fail
  refine (Q.out).mono ?_
  clear Q
  rintro e w1 ⟨C', rfl, hr, hs⟩
  have Hr := Lib.hid hr
  have Hs := Lib.hid hs
  clear hr hs
  go_wp2
  go_ret
  exact ⟨C', rfl, Hr.out, Hs.out⟩
theorem lockHeld_res (tmps : Array Value) (w : World) (b : Nat) (v0 v1 v2 v3 v4 v5 v6 : Value) (hp : tmps[2]? = some ((.pointer (some ⟨b, 0, none⟩)))) (hk : ∀ k, w.cell? ⟨b, k, none⟩ = (#[v0, v1, v2, v3, v4, v5, v6] : Array Value)[k]?) :
    (results Tryz.f19 tmps).run Tryz.prog w = .ok (.agg #[v0, v1, v2, v3, v4, v5, v6]) w := by
  simp [results, Tryz.results19, go_sem, hp, hk]
set_option maxHeartbeats 4000000 in
theorem lockHeld_st {h : InH} {a : Option Addr} {c : Nat} {nx : Value} (hn : h.pg.sl.length ≤ 1000000) (hs : St K w (blk b (.cells (nx :: .bool true :: lkTl d key h (.slice a h.pg.sl.length c)).toArray 125) :: slC (.slice a h.pg.sl.length c) h.pg :: F)) :
    Calls Tryz.prog 19 #[(.pointer (some ⟨b, 0, none⟩))] w fun e w' => ∃ va, e = .returned (.agg #[.int .u64 (h).id, .int .u64 (h).word, .int .i64 (h).pg.lev, va, .string (h).pg.hi, .bool (h).pg.la, .int .u64 (h).pg.ri]) ∧ St K w' (slC va h.pg :: blk b (.cells (nx :: .bool true :: lkTl d key h (.slice a h.pg.sl.length c)).toArray 125) :: slC (.slice a h.pg.sl.length c) h.pg :: F) := by
  have hs := hs.made (.cells #[.int .u64 0, .int .u64 0, .int .i64 0, .slice none 0 0, .string ⟨#[]⟩, .bool false, .int .u64 0] 45)
  have kl := hs.k1
  unfold lkTl at kl
  have hs := hs.made (.cells #[.int .u64 (h).id, .int .u64 (h).word, .int .i64 (h).pg.lev, (.slice a h.pg.sl.length c), .string (h).pg.hi, .bool (h).pg.la, .int .u64 (h).pg.ri] 45)
  rw [World.size_alloc] at hs
  have Hs := Lib.hid hs
  clear hs
  go_enter Tryz.func19, Tryz.ntmps19
  go_upto_region 2 with (fail)
  obtain ⟨b0, hb0⟩ : ∃ b0, b0 = w.heap.size := ⟨_, rfl⟩
  rw [← hb0] at Hs ⊢
  have hs := Hs.out
  refine wp_ck hs ?_
  clear hs Hs hb0 kl
  intro W hs
  have hsl := (show St K _ (rowC (.slice a h.pg.sl.length c) 69 2 h.pg.sl.length (slRow h.pg.sl) :: _) from hs.b3).row_slots (by omega)
  have Hl := Lib.hid (show (slRow h.pg.sl).length = h.pg.sl.length * 2 by rw [slRow_length])
  have H0 : Hid (a = none → h.pg.sl.length = 0) := Lib.hid (fun e => by subst e; rw [hsl.no]; rfl)
  have H1 := Lib.hid (slRow_one h.pg.sl)
  obtain ⟨iv, hiv0, hiv1, hiv2, hiv3⟩ := info_parts infoSlot
  have Hi0 := Lib.hid hiv0
  have Hi1 := Lib.hid hiv1
  have Hi2 := Lib.hid hiv2
  have Hi3 := Lib.hid hiv3
  clear hiv0 hiv1 hiv2 hiv3
  have Hn := Lib.hid hsl.news
  obtain ⟨sl, hsl2⟩ : ∃ sl, sl = slRow h.pg.sl := ⟨_, rfl⟩
  rw [← hsl2] at Hl H1 Hn
  have Hsl2 := Lib.hid hsl2
  have kp := hs.k0
  have fp := hs.f0
  have Hs := Lib.hid (hs.row_nil (T := 69) (size := 2))
  clear hs hsl hsl2
  go_wp2_with (at_builtin; refine append_row_st _ _ 41 69 _ 0 h.pg.sl.length c 2 24 [] sl (.agg #[.string ⟨#[]⟩, .int .u64 0]) iv a Hs.out rfl rfl Tryz.underlying41 Hi0.out Hi1.out Hi2.out Hi3.out rfl (by decide) rfl rfl Hl.out H0.out Hn.out H1.out (by omega) (by decide) ?_)
  intro v' w' hs
  obtain ⟨ao, capo, hv, _, _⟩ := hs.row_read
  subst hv
  clear Hs kp fp Hl H0 H1 Hn Hi0 Hi1 Hi2 Hi3
  have hs := hs.b1
  have kb := hs.k0
  have fb := hs.f0
  have hs := hs.setL 3 (.slice ao h.pg.sl.length capo)
  simp only [List.set_cons_zero, List.set_cons_succ] at hs
  go_upto_region 3 with (fail)
  refine wp_ck hs ?_
  clear hs kb fb
  intro W3 hs
  have k1 := hs.k0
  have hs := hs.b2
  have k0 := hs.k0
  have f0 := hs.f0
  have hs := ((((((hs.setL 0 (.int .u64 h.id)).setL 1 (.int .u64 h.word)).setL 2 (.int .i64 h.pg.lev)).setL 3 (.slice ao h.pg.sl.length capo)).setL 4 (.string h.pg.hi)).setL 5 (.bool h.pg.la)).setL 6 (.int .u64 h.pg.ri)
  simp only [List.set_cons_zero, List.set_cons_succ] at hs
  go_wp2
  rw [Hsl2.out] at hs
  refine bodyPost_ret (lockHeld_res _ _ b0 _ _ _ _ _ _ _ rfl hs.k0) rfl ⟨_, rfl, hs.tail.tail⟩
end
end Go.Proofs.YtlpdhhhgckpcfaaGreat
