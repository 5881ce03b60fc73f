/- descent.Find: the machine that finds a node. -/
import Derived.Test.YtfgjanponijkhaaPath
import Derived.Test.YtfgjanponijkhaaKeys
namespace Go.Proofs.Ytfgjanponijkhaa
open Go.RowKit
set_option maxRecDepth 100000

/-- The state of Find: 0 the root, 1 a node is being read, 2 finished; the path's node and page, the reader. -/
structure FdS where
  pc : Nat
  id : Int
  pg : Pg
  rd : RdS
def fdGo (s : FdS) (id : Int) : FdS := if id = 0 then ⟨0, s.id, s.pg, rd0⟩ else ⟨1, id, s.pg, rd0⟩
/-- The reference of the child that covers a key. -/
def childRef (key : ByteArray) (l : List Sl) : Int := match slOpt l ((hiK l key : Int) - 1) with
  | some s => s.r
  | none => 0
def fdTurn (key : ByteArray) (level : Int) (id : Int) (pg : Pg) : FdS :=
  if pg.lev < level then ⟨2, 0, pg0, rd0⟩
  else if pg.la || klt key pg.hi then
    if pg.lev = level then ⟨2, id, pg, rd0⟩ else fdGo ⟨0, id, pg, rd0⟩ (childRef key pg.sl)
  else fdGo ⟨0, id, pg, rd0⟩ pg.ri
def fdStep (d : Cfg) (L : List Cel) (key : ByteArray) (level : Int) (s : FdS) : FdS :=
  match s.pc with
  | 0 => fdGo s (getC L 0).n
  | 1 => if (rdStep d s.id L s.rd).pc = 6 then fdTurn key level s.id (rdStep d s.id L s.rd).pg else ⟨1, s.id, s.pg, rdStep d s.id L s.rd⟩
  | _ => s
def fd0 : FdS := ⟨0, 0, pg0, rd0⟩
def fdPv (b : Nat) (B : VisB) : Nat → Option FV
  | 0 => some (rootFV b)
  | 1 => some (visFV B)
  | _ => none
/-- Its parts. -/
def fdL (b : Nat) (nx : Value) (B : VisB) (va va2 : Value) (d : Cfg) (key : ByteArray) (level : Int) (s : FdS) : List Comp :=
  blk b (.cells (pathCells nx d s.id s.pg va (.func (.func 130) #[(.pointer (some ⟨b, 0, none⟩))] #[]) [.string key, .int .i64 level]).toArray 203) :: slC va s.pg :: (if s.pc = 1 then visL b B d s.id va2 s.rd else [])

section
variable {K : Know} {w : World} {F : List Comp} {b bm bc : Nat} {nx va : Value} {d : Cfg} {id : Int} {pg : Pg} {L : List Cel} {acc : Nat} {key : ByteArray} {level : Int}
theorem newFind_st (hs : St K w F) : Calls Try.prog 74 #[.agg #[.int .i64 d.th, .int .i64 d.sn, .int .i64 d.no, .int .i64 d.ch, .int .i64 d.re, .int .i64 d.fa, .int .u64 d.cl], .string key, .int .i64 level] w fun e w' => ∃ b, e = .returned (.pointer (some ⟨b, 0, none⟩)) ∧ ∀ B, St K w' (fdL b (stV (some (rootFV b))) B (.slice none 0 0) (.slice none 0 0) d key level fd0 ++ F) := by
  have hs := hs.pass (.cells #[.int .i64 d.th, .int .i64 d.sn, .int .i64 d.no, .int .i64 d.ch, .int .i64 d.re, .int .i64 d.fa, .int .u64 d.cl] 30)
  have hs := hs.made (.cells #[.nilFunc, .bool false, .int .i64 d.th, .int .i64 d.sn, .int .i64 d.no, .int .i64 d.ch, .int .i64 d.re, .int .i64 d.fa, .int .u64 d.cl, .int .u64 0, .int .i64 0, .slice none 0 0, .string ⟨#[]⟩, .bool false, .int .u64 0, (.func (.func 130) #[(.pointer (some ⟨(w.heap.size + 1), 0, none⟩))] #[]), .string key, .int .i64 level] 203)
  rw [World.size_alloc] at hs
  go_enter Try.func74, Try.ntmps74
  go_wp2_with fail
  refine (calls_same hs (begin_any _ _ _ _)).mono ?_
  clear hs
  rintro e w2 ⟨rfl, hs⟩
  have k := hs.k0
  have kf := hs.f0
  have hs := (hs.setL 0 (stV (some (rootFV (w.heap.size + 1))))).setL 1 (.bool true)
  simp only [List.set_cons_zero, List.set_cons_succ] at hs
  go_wp2
  go_ret
  exact ⟨_, rfl, fun B => (hs.row_nil (T := 132) (size := 2)).b1⟩

theorem visitAny_st {id' : Int} {C : Comp} (hid : 0 ≤ id') (hs : St K w (blk b (.cells (pathCells nx d id pg va (.func (.func 130) #[(.pointer (some ⟨b, 0, none⟩))] #[]) [.string key, .int .i64 level]).toArray 203) :: C :: slC va pg :: F)) :
    Calls Try.prog 168 #[(.pointer (some ⟨b, 2, none⟩)), .int .u64 id'] w fun e w' => ∃ o, e = .returned (stV o) ∧ ∃ B : VisB, o = fdPv b B (fdGo ⟨0, id, pg, rd0⟩ id').pc ∧ St K w' (C :: (fdL b nx B va (.slice none 0 0) d key level (fdGo ⟨0, id, pg, rd0⟩ id') ++ F)) := by
  by_cases h : id' = 0
  · subst h
    refine (visit0_st (b := b) hs).mono ?_
    rintro e w3 ⟨rfl, hs⟩
    exact ⟨_, rfl, ⟨0, 0, 0, 0, 0, 0⟩, rfl, hs.b1⟩
  · have e1 : fdGo ⟨0, id, pg, rd0⟩ id' = ⟨1, id', pg, rd0⟩ := by unfold fdGo; rw [if_neg h]
    rw [e1]
    refine (visit_st (id := id') (by omega) hs).mono ?_
    rintro e w3 ⟨B, rfl, hs⟩
    exact ⟨_, rfl, B, rfl, hs.re [6, 0, 7, 1, 2, 3, 4, 5] rfl⟩
/-- What turn leaves. -/
def FtP (K : Know) (b : Nat) (nx : Value) (d : Cfg) (key : ByteArray) (level : Int) (F : List Comp) (s : FdS) (o : Option FV) (w' : World) : Prop :=
  ∃ (B : VisB) (va' : Value), o = fdPv b B s.pc ∧ St K w' (fdL b nx B va' (.slice none 0 0) d key level s ++ F)
set_option maxHeartbeats 4000000 in
theorem fturn_st (hri : 0 ≤ pg.ri) (hrf : ∀ s, s ∈ pg.sl → 0 ≤ s.r) (hn : pg.sl.length ≤ 1000000) (hasc : level < pg.lev → Asc pg.sl)
    (hs : St K w (blk b (.cells (pathCells nx d id pg va (.func (.func 130) #[(.pointer (some ⟨b, 0, none⟩))] #[]) [.string key, .int .i64 level]).toArray 203) :: slC va pg :: F)) :
    Calls Try.prog 130 #[(.pointer (some ⟨b, 0, none⟩))] w fun e w' => ∃ o, e = .returned (stV o) ∧ FtP K b nx d key level F (fdTurn key level id pg) o w' := by
  obtain ⟨a, c, rfl, _, _⟩ := (show St K w (rowC va 132 2 pg.sl.length (slRow pg.sl) :: _) from hs.b1).row_read
  have k := hs.k0
  unfold pathCells at k
  have hs := hs.made (.cells #[.int .i64 (pg).lev, (.slice a pg.sl.length c), .string (pg).hi, .bool (pg).la, .int .u64 (pg).ri] 25)
  obtain ⟨s', Hs'⟩ : ∃ s', Hid (s' = fdTurn key level id pg) := ⟨_, Lib.hid rfl⟩
  rw [← Hs'.out]
  have Qw := Lib.hid (fun w => within_any key ⟨#[]⟩ pg.hi pg.la w)
  rw [klt_empty, Bool.not_false, Bool.true_and] at Qw
  go_enter Try.func130, Try.ntmps130
  go_upto_region 2 with (fail)
  clear k
  have kw := hs.k0
  have k := hs.k1
  unfold pathCells at k
  refine region_pure (by kernel_rfl) (by kernel_rfl) ?_
  repeat (go_big_quiet_step (fail))
  refine wpQuiet_nil ?_
  intro w2 hb2
  have hs := hs.same hb2
  clear kw k hb2
  by_cases hlt : pg.lev < level
  · have k := hs.k1
    unfold pathCells at k
    have kf := hs.f1
    rw [fdTurn, if_pos hlt] at Hs'
    have hs := ((((((hs.tail.setL 9 (.int .u64 0)).setL 10 (.int .i64 0)).setL 11 (.slice none 0 0)).setL 12 (.string ⟨#[]⟩)).setL 13 (.bool false)).setL 14 (.int .u64 0))
    go_wp2
    go_ret
    exact ⟨none, rfl, by rw [Hs'.out]; exact ⟨⟨0, 0, 0, 0, 0, 0⟩, .slice none 0 0, rfl, ((hs.drop1.row_nil (T := 132) (size := 2)).b1 : St K _ (blk b (.cells (pathCells nx d 0 pg0 (.slice none 0 0) (.func (.func 130) #[(.pointer (some ⟨b, 0, none⟩))] #[]) [.string key, .int .i64 level]).toArray 203) :: slC (.slice none 0 0) pg0 :: F))⟩⟩
  rw [fdTurn, if_neg hlt] at Hs'
  have kw := hs.k0
  have k := hs.k1
  unfold pathCells at k
  have Hlt := Lib.hid hlt
  go_upto_region 5 with (fail)
  refine region_pure (by kernel_rfl) (by kernel_rfl) ?_
  repeat (go_big_quiet_step ((go_at_call 167; exact pure_of ((Qw.out _).mono (by rintro e w' ⟨rfl, rfl⟩; exact ⟨rfl, Below.refl _ _⟩)))))
  refine wpQuiet_nil ?_
  intro w3 hb3
  have hs := hs.same hb3
  clear kw k hb3 Qw hlt
  rw [← Bool.not_or]
  cases hin : (pg.la || klt key pg.hi) with
  | false =>
    simp only [Bool.not_false]
    rw [hin] at Hs'
    simp only [Bool.false_eq_true, if_false] at Hs'
    have kw := hs.k0
    go_upto_region 6 with (fail)
    clear kw
    have Hs := Lib.hid hs
    clear hs
    refine region_two [false, false, false, false, false, true, true] 5 6
      (fun W => St K W (blk w.heap.size (.cells #[.int .i64 (pg).lev, (.slice a pg.sl.length c), .string (pg).hi, .bool (pg).la, .int .u64 (pg).ri] 25) :: blk b (.cells (pathCells nx d id pg (.slice a pg.sl.length c) (.func (.func 130) #[(.pointer (some ⟨b, 0, none⟩))] #[]) [.string key, .int .i64 level]).toArray 203) :: slC (.slice a pg.sl.length c) pg :: F))
      (fun v W => ∃ o, v = stV o ∧ ∃ B : VisB, o = fdPv b B (fdGo ⟨0, id, pg, rd0⟩ pg.ri).pc ∧ St K W (blk w.heap.size (.cells #[.int .i64 (pg).lev, (.slice a pg.sl.length c), .string (pg).hi, .bool (pg).la, .int .u64 (pg).ri] 25) :: (fdL b nx B (.slice a pg.sl.length c) (.slice none 0 0) d key level (fdGo ⟨0, id, pg, rd0⟩ pg.ri) ++ F)))
      (fun v u W => u = v ∧ ∃ o, v = stV o ∧ ∃ B : VisB, o = fdPv b B (fdGo ⟨0, id, pg, rd0⟩ pg.ri).pc ∧ St K W (blk w.heap.size (.cells #[.int .i64 (pg).lev, (.slice a pg.sl.length c), .string (pg).hi, .bool (pg).la, .int .u64 (pg).ri] 25) :: (fdL b nx B (.slice a pg.sl.length c) (.slice none 0 0) d key level (fdGo ⟨0, id, pg, rd0⟩ pg.ri) ++ F)))
      (fun W => ∃ cs, St K W (blk w.heap.size (.cells #[.int .i64 (pg).lev, (.slice a pg.sl.length c), .string (pg).hi, .bool (pg).la, .int .u64 (pg).ri] 25) :: cs)) ?aS1 (by decide) (by kernel_rfl) ?hB1 ?H1 ?haS1 Hs.out ?hI1 ?hR1 ?hE11 ?hE21 ?hQ1
    case hB1 => as_aux_lemma => kernel_rfl
    case H1 =>
      rintro W2 ⟨cs, hs⟩
      have k1 := hs.k0
      clear hs
      simp only [withM]
      repeat (go_big_quiet_step (fail))
      refine wpQuiet_nil ?_
      rfl
    case haS1 => rfl
    case hI1 => exact ⟨fun W h => ⟨_, h⟩, fun v W ⟨_, _, _, _, h⟩ => ⟨_, h⟩, fun v u W ⟨_, _, _, _, _, h⟩ => ⟨_, h⟩⟩
    case hR1 => exact ⟨fun W W' h hb => h.same hb, fun v W W' ⟨o, e, B, e2, h⟩ hb => ⟨o, e, B, e2, h.same hb⟩, fun v u W W' ⟨e0, o, e, B, e2, h⟩ hb => ⟨e0, o, e, B, e2, h.same hb⟩⟩
    case hE11 =>
      intro R2' o ho ρ W2 hs hk af haf
      obtain rfl := Option.some.inj ho
      subst haf
      have Hk := Lib.hid hk
      clear hk
      go_wp2_with fail
      refine (visitAny_st (id' := pg.ri) (by exact hri) hs.b1).mono ?_
      rintro e w3 ⟨o, rfl, B, ho, hs⟩
      cases o with
      | none =>
        simp only [stV]
        go_wp2
        exact ⟨rfl, _, rfl, Hk.out _ _ ⟨none, rfl, B, ho, hs⟩⟩
      | some f =>
        simp only [stV]
        go_wp2
        exact ⟨rfl, _, rfl, Hk.out _ _ ⟨some f, rfl, B, ho, hs⟩⟩
    case hE21 =>
      rintro R2' o ho ρ v W2 ⟨ov, rfl, B, hov, hs⟩ hk af haf
      obtain rfl := Option.some.inj ho
      have Hk := Lib.hid hk
      clear hk
      simp only [dstAt, List.getElem?_cons_succ, List.getElem?_cons_zero, Option.bind_some, Act.put, List.setIfInBounds_toArray, List.set_cons_zero, List.set_cons_succ] at haf
      subst haf
      have Hov := Lib.hid hov
      clear hov
      cases ov with
      | none =>
        simp only [stV]
        go_wp2
        exact ⟨rfl, _, rfl, Hk.out _ _ ⟨rfl, none, rfl, B, Hov.out, hs⟩⟩
      | some f =>
        simp only [stV]
        go_wp2
        exact ⟨rfl, _, rfl, Hk.out _ _ ⟨rfl, some f, rfl, B, Hov.out, hs⟩⟩
    case hQ1 =>
      rintro v u W2 ⟨rfl, ov, rfl, B, hov, hs⟩
      simp only [dstAt, List.getElem?_cons_succ, List.getElem?_cons_zero, Option.bind_some, Act.put, List.setIfInBounds_toArray, List.set_cons_zero, List.set_cons_succ]
      have Hov := Lib.hid hov
      clear hov
      cases ov with
      | none =>
        simp only [stV]
        go_wp2
        go_ret
        exact ⟨none, rfl, by rw [Hs'.out]; exact ⟨B, _, Hov.out, hs.tail⟩⟩
      | some f =>
        simp only [stV]
        go_wp2
        go_ret
        exact ⟨some f, rfl, by rw [Hs'.out]; exact ⟨B, _, Hov.out, hs.tail⟩⟩
  | true =>
    simp only [Bool.not_true]
    rw [hin] at Hs'
    simp only [if_true] at Hs'
    have kw := hs.k0
    have k := hs.k1
    unfold pathCells at k
    go_upto_region 7 with (fail)
    refine region_pure (by kernel_rfl) (by kernel_rfl) ?_
    repeat (go_big_quiet_step (fail))
    refine wpQuiet_nil ?_
    intro w4 hb4
    have hs := hs.same hb4
    clear kw k hb4
    by_cases hlv : pg.lev = level
    · rw [if_pos hlv] at Hs'
      go_wp2
      go_ret
      exact ⟨none, rfl, by rw [Hs'.out]; exact ⟨⟨0, 0, 0, 0, 0, 0⟩, .slice a pg.sl.length c, rfl, hs.tail⟩⟩
    rw [if_neg hlv] at Hs'
    rw [show (pg.lev == level) = false by simp [hlv]]
    have hsl := (show St K w4 (rowC (.slice a pg.sl.length c) 132 2 pg.sl.length (slRow pg.sl) :: _) from hs.b2).row_slots (by omega)
    have Qc := Lib.hid (fun W (hb : Below w4.heap.size w4 W) => child_any (cap := c) (key := key) W (hsl.same hb) (hasc (by have := Hlt.out; omega)))
    obtain ⟨sv, hsv, hsr⟩ : ∃ sv : Sl, slVal (slOpt pg.sl ((hiK pg.sl key : Int) - 1)) = .agg #[.string sv.k, .int .u64 sv.r] ∧ childRef key pg.sl = sv.r := by
      unfold childRef
      cases slOpt pg.sl ((hiK pg.sl key : Int) - 1) with
      | none => exact ⟨⟨⟨#[]⟩, 0⟩, rfl, rfl⟩
      | some s => exact ⟨s, rfl, rfl⟩
    have hsr0 : 0 ≤ sv.r := by
      rw [← hsr]
      unfold childRef slOpt
      split
      · rename_i s hx
        split at hx
        · cases hx
        · exact hrf s (List.mem_of_getElem? hx)
      · omega
    rw [hsv] at Qc
    generalize (slOpt pg.sl ((hiK pg.sl key : Int) - 1)).isSome = bo at Qc
    rw [hsr] at Hs'
    have Hlv := Lib.hid hlv
    clear hsv hsr hsl
    clear hlv
    go_upto_region 9 with (fail)
    have Hs := Lib.hid hs
    clear hs
    refine region_two [false, false, false, false, false, false, false, false, false, true, true, false] 9 10
      (fun W => St K W (blk w.heap.size (.cells #[.int .i64 (pg).lev, (.slice a pg.sl.length c), .string (pg).hi, .bool (pg).la, .int .u64 (pg).ri] 25) :: blk b (.cells (pathCells nx d id pg (.slice a pg.sl.length c) (.func (.func 130) #[(.pointer (some ⟨b, 0, none⟩))] #[]) [.string key, .int .i64 level]).toArray 203) :: slC (.slice a pg.sl.length c) pg :: F) ∧ Below w4.heap.size w4 W)
      (fun v W => ∃ bn : Nat, v = (.pointer (some ⟨bn, 0, none⟩)) ∧ St K W (blk bn (.cells #[.string ⟨#[]⟩, .int .u64 0] 132) :: blk w.heap.size (.cells #[.int .i64 (pg).lev, (.slice a pg.sl.length c), .string (pg).hi, .bool (pg).la, .int .u64 (pg).ri] 25) :: blk b (.cells (pathCells nx d id pg (.slice a pg.sl.length c) (.func (.func 130) #[(.pointer (some ⟨b, 0, none⟩))] #[]) [.string key, .int .i64 level]).toArray 203) :: slC (.slice a pg.sl.length c) pg :: F) ∧ w4.heap.size ≤ bn ∧ Below w4.heap.size w4 W)
      (fun v u W => u = undef ∧ ∃ bn : Nat, v = (.pointer (some ⟨bn, 0, none⟩)) ∧ St K W (blk bn (.cells #[.string sv.k, .int .u64 sv.r] 132) :: blk w.heap.size (.cells #[.int .i64 (pg).lev, (.slice a pg.sl.length c), .string (pg).hi, .bool (pg).la, .int .u64 (pg).ri] 25) :: blk b (.cells (pathCells nx d id pg (.slice a pg.sl.length c) (.func (.func 130) #[(.pointer (some ⟨b, 0, none⟩))] #[]) [.string key, .int .i64 level]).toArray 203) :: slC (.slice a pg.sl.length c) pg :: F) ∧ w4.heap.size ≤ bn ∧ Below w4.heap.size w4 W)
      (fun W => ∃ cs, St K W (blk w.heap.size (.cells #[.int .i64 (pg).lev, (.slice a pg.sl.length c), .string (pg).hi, .bool (pg).la, .int .u64 (pg).ri] 25) :: blk b (.cells (pathCells nx d id pg (.slice a pg.sl.length c) (.func (.func 130) #[(.pointer (some ⟨b, 0, none⟩))] #[]) [.string key, .int .i64 level]).toArray 203) :: cs) ∧ Below w4.heap.size w4 W) ?aS3 (by decide) (by kernel_rfl) ?hB3 ?H3 ?haS3 ⟨Hs.out, Below.refl _ _⟩ ?hI3 ?hR3 ?hE13 ?hE23 ?hQ3
    case hB3 => as_aux_lemma => kernel_rfl
    case H3 =>
      rintro W2 ⟨cs, hs, hb⟩
      have k1 := hs.k0
      have k2 := hs.k1
      unfold pathCells at k2
      have Qy := Lib.hid (fun wz (hy : ∃ x : Ext, wz = over W2 x) => Qc.out wz (hb.trans ((Pure.below hy).mono hb.size)))
      clear hs hb
      simp only [withM]
      repeat (go_big_quiet_step ((go_at_call 169; exact pure_of (Qy.out _ ⟨_, rfl⟩))))
      refine wpQuiet_nil ?_
      rfl
    case haS3 => rfl
    case hI3 => exact ⟨fun W h => ⟨_, h⟩, fun v W ⟨_, _, h, _, hb⟩ => ⟨_, h.tail, hb⟩, fun v u W ⟨_, _, _, h, _, hb⟩ => ⟨_, h.tail, hb⟩⟩
    case hR3 => exact ⟨fun W W' ⟨h, hb0⟩ hb => ⟨h.same hb, hb0.trans (hb.mono hb0.size)⟩, fun v W W' ⟨bn, e, h, hbn, hb0⟩ hb => ⟨bn, e, h.same hb, hbn, hb0.trans (hb.mono hb0.size)⟩, fun v u W W' ⟨e0, bn, e, h, hbn, hb0⟩ hb => ⟨e0, bn, e, h.same hb, hbn, hb0.trans (hb.mono hb0.size)⟩⟩
    case hE13 =>
      rintro R2' o ho ρ W2 ⟨hs, hb⟩ hk af haf
      obtain rfl := Option.some.inj ho
      subst haf
      have Hk := Lib.hid hk
      clear hk
      have hs := hs.made (.cells #[.string ⟨#[]⟩, .int .u64 0] 132)
      go_wp2
      exact ⟨rfl, _, rfl, Hk.out _ _ ⟨_, rfl, hs, hb.size, hb.alloc hb.size _⟩⟩
    case hE23 =>
      rintro R2' o ho ρ v W2 ⟨bn, rfl, hs, hbn, hb⟩ hk af haf
      obtain rfl := Option.some.inj ho
      have Hk := Lib.hid hk
      clear hk
      simp only [dstAt, List.getElem?_cons_succ, List.getElem?_cons_zero, Option.bind_some, Act.put, List.setIfInBounds_toArray, List.set_cons_zero, List.set_cons_succ] at haf
      subst haf
      have k0 := hs.k0
      have f0 := hs.f0
      have hs2 := (hs.setL 0 (.string sv.k)).setL 1 (.int .u64 sv.r)
      simp only [List.set_cons_zero, List.set_cons_succ] at hs2
      have hb2 : Below w4.heap.size w4 ((W2.setCell ⟨bn, 0, none⟩ (.string sv.k)).setCell ⟨bn, 1, none⟩ (.int .u64 sv.r)) := (hb.setCell hbn _).setCell hbn _
      have Hb2 := Lib.hid hb2
      clear hb hb2
      go_wp2
      exact ⟨rfl, undef, rfl, Hk.out _ _ ⟨rfl, bn, rfl, hs2, hbn, Hb2.out⟩⟩
    case hQ3 =>
      rintro v u W2 ⟨rfl, bn, rfl, hs, hbn, hb⟩
      simp only [dstAt, List.getElem?_cons_succ, List.getElem?_cons_zero, Option.bind_some, Act.put, List.setIfInBounds_toArray, List.set_cons_zero, List.set_cons_succ]
      clear hb hbn
      have kw := hs.k0
      go_upto_region 10 with (fail)
      clear kw
      have Hs2 := Lib.hid hs
      clear hs
      refine region_two [false, false, false, false, false, true, true] 5 6
        (fun W => St K W (blk bn (.cells #[.string sv.k, .int .u64 sv.r] 132) :: blk b (.cells (pathCells nx d id pg (.slice a pg.sl.length c) (.func (.func 130) #[(.pointer (some ⟨b, 0, none⟩))] #[]) [.string key, .int .i64 level]).toArray 203) :: slC (.slice a pg.sl.length c) pg :: F))
        (fun v W => ∃ o, v = stV o ∧ ∃ B : VisB, o = fdPv b B (fdGo ⟨0, id, pg, rd0⟩ sv.r).pc ∧ St K W (blk bn (.cells #[.string sv.k, .int .u64 sv.r] 132) :: (fdL b nx B (.slice a pg.sl.length c) (.slice none 0 0) d key level (fdGo ⟨0, id, pg, rd0⟩ sv.r) ++ F)))
        (fun v u W => u = v ∧ ∃ o, v = stV o ∧ ∃ B : VisB, o = fdPv b B (fdGo ⟨0, id, pg, rd0⟩ sv.r).pc ∧ St K W (blk bn (.cells #[.string sv.k, .int .u64 sv.r] 132) :: (fdL b nx B (.slice a pg.sl.length c) (.slice none 0 0) d key level (fdGo ⟨0, id, pg, rd0⟩ sv.r) ++ F)))
        (fun W => ∃ cs, St K W (blk bn (.cells #[.string sv.k, .int .u64 sv.r] 132) :: cs)) ?aS4 (by decide) (by kernel_rfl) ?hB4 ?H4 ?haS4 Hs2.out.drop1 ?hI4 ?hR4 ?hE14 ?hE24 ?hQ4
      case hB4 => as_aux_lemma => kernel_rfl
      case H4 =>
        rintro W2 ⟨cs, hs⟩
        have k1 := hs.k0
        clear hs
        simp only [withM]
        repeat (go_big_quiet_step (fail))
        refine wpQuiet_nil ?_
        rfl
      case haS4 => rfl
      case hI4 => exact ⟨fun W h => ⟨_, h⟩, fun v W ⟨_, _, _, _, h⟩ => ⟨_, h⟩, fun v u W ⟨_, _, _, _, _, h⟩ => ⟨_, h⟩⟩
      case hR4 => exact ⟨fun W W' h hb => h.same hb, fun v W W' ⟨o, e, B, e2, h⟩ hb => ⟨o, e, B, e2, h.same hb⟩, fun v u W W' ⟨e0, o, e, B, e2, h⟩ hb => ⟨e0, o, e, B, e2, h.same hb⟩⟩
      case hE14 =>
        intro R2' o ho ρ W2 hs hk af haf
        obtain rfl := Option.some.inj ho
        subst haf
        have Hk := Lib.hid hk
        clear hk
        go_wp2_with fail
        refine (visitAny_st (id' := sv.r) (by exact hsr0) hs.b1).mono ?_
        rintro e w3 ⟨o, rfl, B, ho, hs⟩
        cases o with
        | none =>
          simp only [stV]
          go_wp2
          exact ⟨rfl, _, rfl, Hk.out _ _ ⟨none, rfl, B, ho, hs⟩⟩
        | some f =>
          simp only [stV]
          go_wp2
          exact ⟨rfl, _, rfl, Hk.out _ _ ⟨some f, rfl, B, ho, hs⟩⟩
      case hE24 =>
        rintro R2' o ho ρ v W2 ⟨ov, rfl, B, hov, hs⟩ hk af haf
        obtain rfl := Option.some.inj ho
        have Hk := Lib.hid hk
        clear hk
        simp only [dstAt, List.getElem?_cons_succ, List.getElem?_cons_zero, Option.bind_some, Act.put, List.setIfInBounds_toArray, List.set_cons_zero, List.set_cons_succ] at haf
        subst haf
        have Hov := Lib.hid hov
        clear hov
        cases ov with
        | none =>
          simp only [stV]
          go_wp2
          exact ⟨rfl, _, rfl, Hk.out _ _ ⟨rfl, none, rfl, B, Hov.out, hs⟩⟩
        | some f =>
          simp only [stV]
          go_wp2
          exact ⟨rfl, _, rfl, Hk.out _ _ ⟨rfl, some f, rfl, B, Hov.out, hs⟩⟩
      case hQ4 =>
        rintro v u W2 ⟨rfl, ov, rfl, B, hov, hs⟩
        simp only [dstAt, List.getElem?_cons_succ, List.getElem?_cons_zero, Option.bind_some, Act.put, List.setIfInBounds_toArray, List.set_cons_zero, List.set_cons_succ]
        have Hov := Lib.hid hov
        clear hov
        cases ov with
        | none =>
          simp only [stV]
          go_wp2
          go_ret
          exact ⟨none, rfl, by rw [Hs'.out]; exact ⟨B, _, Hov.out, hs.tail⟩⟩
        | some f =>
          simp only [stV]
          go_wp2
          go_ret
          exact ⟨some f, rfl, by rw [Hs'.out]; exact ⟨B, _, Hov.out, hs.tail⟩⟩
end
end Go.Proofs.Ytfgjanponijkhaa
