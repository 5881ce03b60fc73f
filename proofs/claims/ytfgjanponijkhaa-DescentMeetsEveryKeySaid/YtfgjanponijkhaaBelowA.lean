/- descent.Below: the machine that finds the leaf below a key. Below in a tree: where it is, and how many steps are left. descent.Below: Step and Node. -/
import Derived.Test.YtfgjanponijkhaaFindB
import Derived.Test.YtfgjanponijkhaaFindLaw
namespace Go.Proofs.Ytfgjanponijkhaa
open Go.RowKit
set_option maxRecDepth 100000

/-- The state of Below: that of Find, and the low key. -/
structure BwS where
  f : FdS
  low : ByteArray
/-- The slot with the greatest key below, or the last one. -/
def bwSlot (key : ByteArray) (last : Bool) (l : List Sl) : Sl := match slOpt l (((if last then l.length else loK l key : Nat) : Int) - 1) with
  | some s => s
  | none => ⟨⟨#[]⟩, 0⟩
def bwTurn (key : ByteArray) (last : Bool) (id : Int) (pg : Pg) (low : ByteArray) : BwS :=
  if !pg.la && (last || klt pg.hi key) then ⟨fdGo ⟨0, id, pg, rd0⟩ pg.ri, pg.hi⟩
  else if pg.lev = 0 then ⟨⟨2, id, pg, rd0⟩, low⟩
  else ⟨fdGo ⟨0, id, pg, rd0⟩ (bwSlot key last pg.sl).r, (bwSlot key last pg.sl).k⟩
def bwStep (d : Cfg) (L : List Cel) (key : ByteArray) (last : Bool) (s : BwS) : BwS :=
  match s.f.pc with
  | 0 => ⟨fdGo s.f (getC L 0).n, s.low⟩
  | 1 => if (rdStep d s.f.id L s.f.rd).pc = 6 then bwTurn key last s.f.id (rdStep d s.f.id L s.f.rd).pg s.low else ⟨⟨1, s.f.id, s.f.pg, rdStep d s.f.id L s.f.rd⟩, s.low⟩
  | _ => s
def bw0 : BwS := ⟨fd0, ⟨#[]⟩⟩
/-- Its parts. -/
def bwL (b : Nat) (nx : Value) (B : VisB) (va va2 : Value) (d : Cfg) (key : ByteArray) (last : Bool) (s : BwS) : List Comp :=
  blk b (.cells (pathCells nx d s.f.id s.f.pg va (.func (.func 134) #[(.pointer (some ⟨b, 0, none⟩))] #[]) [.string key, .bool last, .string s.low]).toArray 206) :: slC va s.f.pg :: (if s.f.pc = 1 then visL b B d s.f.id va2 s.f.rd else [])
/-- Below of nothing has its end as its first state. -/
def nilFV : FV := ⟨135, #[], #[]⟩
def bwFirst (b : Nat) (key : ByteArray) (last : Bool) : FV := if (key.toList == []) && !last then nilFV else rootFV b

section
variable {K : Know} {w : World} {F : List Comp} {b bm bc : Nat} {nx va : Value} {d : Cfg} {id : Int} {pg : Pg} {L : List Cel} {acc : Nat} {key low : ByteArray} {last : Bool}
theorem key_none {key : ByteArray} : (key.toList == []) = false ∨ key = ⟨#[]⟩ := by
  cases h2 : (key.toList == []) with
  | false => exact .inl rfl
  | true => exact .inr (key_ext (by simpa using h2))
theorem newBelow_st (hk : last = true ∨ klt ⟨#[]⟩ key = true) (hs : St K w F) : Calls Try.prog 81 #[.agg #[.int .i64 d.th, .int .i64 d.sn, .int .i64 d.no, .int .i64 d.ch, .int .i64 d.re, .int .i64 d.fa, .int .u64 d.cl], .string key, .bool last] w fun e w' => ∃ b, e = .returned (.pointer (some ⟨b, 0, none⟩)) ∧ ∀ B, St K w' (bwL b (stV (some (rootFV b))) B (.slice none 0 0) (.slice none 0 0) d key last bw0 ++ F) := by
  have hs := hs.pass (.cells #[.int .i64 d.th, .int .i64 d.sn, .int .i64 d.no, .int .i64 d.ch, .int .i64 d.re, .int .i64 d.fa, .int .u64 d.cl] 30)
  have hs := hs.made (.cells #[.nilFunc, .bool false, .int .i64 d.th, .int .i64 d.sn, .int .i64 d.no, .int .i64 d.ch, .int .i64 d.re, .int .i64 d.fa, .int .u64 d.cl, .int .u64 0, .int .i64 0, .slice none 0 0, .string ⟨#[]⟩, .bool false, .int .u64 0, (.func (.func 134) #[(.pointer (some ⟨(w.heap.size + 1), 0, none⟩))] #[]), .string key, .bool last, .string ⟨#[]⟩] 206)
  rw [World.size_alloc] at hs
  have hc : last = true ∨ (last = false ∧ (key.toList == []) = false) := by
    rcases hk with h | h
    · exact .inl h
    · cases last with
      | true => exact .inl rfl
      | false =>
        rcases key_none (key := key) with h2 | h2
        · exact .inr ⟨rfl, h2⟩
        · rw [h2, klt_irrefl] at h; cases h
  clear hk
  rcases hc with rfl | ⟨rfl, hk0⟩
  · cases hk0 : (key.toList == [])
    all_goals
      go_enter Try.func81, Try.ntmps81
      go_wp2_with fail
      refine (calls_same hs (begin_any _ _ _ _)).mono ?_
      clear hs
      rintro e w2 ⟨rfl, hs⟩
      have k := hs.k0
      have kf := hs.f0
      have hs := (hs.setL 0 (stV (some (rootFV (w.heap.size + 1))))).setL 1 (.bool true)
      simp only [List.set_cons_zero, List.set_cons_succ] at hs
      go_wp2
      go_ret
      exact ⟨_, rfl, fun B => (hs.row_nil (T := 132) (size := 2)).b1⟩
  · go_enter Try.func81, Try.ntmps81
    go_wp2_with fail
    refine (calls_same hs (begin_any _ _ _ _)).mono ?_
    clear hs
    rintro e w2 ⟨rfl, hs⟩
    have k := hs.k0
    have kf := hs.f0
    have hs := (hs.setL 0 (stV (some (rootFV (w.heap.size + 1))))).setL 1 (.bool true)
    simp only [List.set_cons_zero, List.set_cons_succ] at hs
    go_wp2
    go_ret
    exact ⟨_, rfl, fun B => (hs.row_nil (T := 132) (size := 2)).b1⟩
/-- Below of nothing. -/
theorem newBelow0_st (hs : St K w F) : Calls Try.prog 81 #[.agg #[.int .i64 d.th, .int .i64 d.sn, .int .i64 d.no, .int .i64 d.ch, .int .i64 d.re, .int .i64 d.fa, .int .u64 d.cl], .string ⟨#[]⟩, .bool false] w fun e w' => ∃ b, e = .returned (.pointer (some ⟨b, 0, none⟩)) ∧ St K w' (blk b (.cells (pathCells (stV (some nilFV)) d 0 pg0 (.slice none 0 0) (.func (.func 134) #[(.pointer (some ⟨b, 0, none⟩))] #[]) [.string ⟨#[]⟩, .bool false, .string ⟨#[]⟩]).toArray 206) :: F) := by
  have hs := hs.pass (.cells #[.int .i64 d.th, .int .i64 d.sn, .int .i64 d.no, .int .i64 d.ch, .int .i64 d.re, .int .i64 d.fa, .int .u64 d.cl] 30)
  have hs := hs.made (.cells #[.nilFunc, .bool false, .int .i64 d.th, .int .i64 d.sn, .int .i64 d.no, .int .i64 d.ch, .int .i64 d.re, .int .i64 d.fa, .int .u64 d.cl, .int .u64 0, .int .i64 0, .slice none 0 0, .string ⟨#[]⟩, .bool false, .int .u64 0, (.func (.func 134) #[(.pointer (some ⟨(w.heap.size + 1), 0, none⟩))] #[]), .string ⟨#[]⟩, .bool false, .string ⟨#[]⟩] 206)
  rw [World.size_alloc] at hs
  have hk0 : ((⟨#[]⟩ : ByteArray).toList == []) = true := by rw [ByteArray.toList_eq]; rfl
  go_enter Try.func81, Try.ntmps81
  go_wp2_with fail
  refine (calls_same hs (begin_any _ _ _ _)).mono ?_
  clear hs
  rintro e w2 ⟨rfl, hs⟩
  have k := hs.k0
  have kf := hs.f0
  have hs := (hs.setL 0 (stV (some nilFV))).setL 1 (.bool true)
  simp only [List.set_cons_zero, List.set_cons_succ] at hs
  go_wp2
  go_ret
  exact ⟨_, rfl, hs⟩
theorem visitAnyB_st {id' : Int} {C : Comp} (hid : 0 ≤ id') (hs : St K w (blk b (.cells (pathCells nx d id pg va (.func (.func 134) #[(.pointer (some ⟨b, 0, none⟩))] #[]) [.string key, .bool last, .string low]).toArray 206) :: C :: slC va pg :: F)) :
    Calls Try.prog 168 #[(.pointer (some ⟨b, 2, none⟩)), .int .u64 id'] w fun e w' => ∃ o, e = .returned (stV o) ∧ ∃ B : VisB, o = fdPv b B (fdGo ⟨0, id, pg, rd0⟩ id').pc ∧ St K w' (C :: (bwL b nx B va (.slice none 0 0) d key last ⟨fdGo ⟨0, id, pg, rd0⟩ id', low⟩ ++ F)) := by
  by_cases h : id' = 0
  · subst h
    refine (visit0_st (b := b) hs).mono ?_
    rintro e w3 ⟨rfl, hs⟩
    exact ⟨_, rfl, ⟨0, 0, 0, 0, 0, 0⟩, rfl, hs.b1⟩
  · have e1 : fdGo ⟨0, id, pg, rd0⟩ id' = ⟨1, id', pg, rd0⟩ := by unfold fdGo; rw [if_neg h]
    rw [e1]
    refine (visit_st (id := id') (by omega) hs).mono ?_
    rintro e w3 ⟨B, rfl, hs⟩
    exact ⟨_, rfl, B, rfl, hs.re [6, 0, 7, 1, 2, 3, 4, 5] rfl⟩
/-- What turn leaves. -/
def BtP (K : Know) (b : Nat) (nx : Value) (d : Cfg) (key : ByteArray) (last : Bool) (F : List Comp) (s : BwS) (o : Option FV) (w' : World) : Prop :=
  ∃ (B : VisB) (va' : Value), o = fdPv b B s.f.pc ∧ St K w' (bwL b nx B va' (.slice none 0 0) d key last s ++ F)
set_option maxHeartbeats 4000000 in
theorem bturn_st (hri : 0 ≤ pg.ri) (hrf : ∀ s, s ∈ pg.sl → 0 ≤ s.r) (hn : pg.sl.length ≤ 1000000) (hasc : Asc pg.sl)
    (hs : St K w (blk b (.cells (pathCells nx d id pg va (.func (.func 134) #[(.pointer (some ⟨b, 0, none⟩))] #[]) [.string key, .bool last, .string low]).toArray 206) :: slC va pg :: F)) :
    Calls Try.prog 134 #[(.pointer (some ⟨b, 0, none⟩))] w fun e w' => ∃ o, e = .returned (stV o) ∧ BtP K b nx d key last F (bwTurn key last id pg low) o w' := by
  obtain ⟨a, c, rfl, _, _⟩ := (show St K w (rowC va 132 2 pg.sl.length (slRow pg.sl) :: _) from hs.b1).row_read
  have k := hs.k0
  unfold pathCells at k
  have hs := hs.made (.cells #[.int .i64 (pg).lev, (.slice a pg.sl.length c), .string (pg).hi, .bool (pg).la, .int .u64 (pg).ri] 25)
  obtain ⟨s', Hs'⟩ : ∃ s', Hid (s' = bwTurn key last id pg low) := ⟨_, Lib.hid rfl⟩
  rw [← Hs'.out]
  go_enter Try.func134, Try.ntmps134
  go_upto_region 2 with (fail)
  clear k
  go_cut [10, 28] (fun _ v28 wx => v28 = .bool (!pg.la && (last || klt pg.hi key)) ∧ St K wx (blk w.heap.size (.cells #[.int .i64 (pg).lev, (.slice a pg.sl.length c), .string (pg).hi, .bool (pg).la, .int .u64 (pg).ri] 25) :: blk b (.cells (pathCells nx d id pg (.slice a pg.sl.length c) (.func (.func 134) #[(.pointer (some ⟨b, 0, none⟩))] #[]) [.string key, .bool last, .string low]).toArray 206) :: slC (.slice a pg.sl.length c) pg :: F))
  case first =>
    as_aux_lemma =>
    have kw := hs.k0
    have k := hs.k1
    unfold pathCells at k
    rcases Bool.eq_false_or_eq_true pg.la with hla | hla
    · rw [hla] at kw k
      refine region_pure (by kernel_rfl) (by kernel_rfl) ?_
      repeat (go_big_quiet_step (fail))
      refine wpQuiet_nil ?_
      intro w2 hb2
      have hs := hs.same hb2
      clear kw k hb2
      go_wp2
      go_meet
      exact ⟨by simp [hla], hs⟩
    · rw [hla] at kw k
      cases last with
      | true =>
        refine region_pure (by kernel_rfl) (by kernel_rfl) ?_
        repeat (go_big_quiet_step (fail))
        refine wpQuiet_nil ?_
        intro w2 hb2
        have hs := hs.same hb2
        clear kw k hb2
        go_wp2
        go_meet
        exact ⟨by simp [hla], hs⟩
      | false =>
        refine region_pure (by kernel_rfl) (by kernel_rfl) ?_
        repeat (go_big_quiet_step (fail))
        refine wpQuiet_nil ?_
        intro w2 hb2
        have hs := hs.same hb2
        clear kw k hb2
        go_wp2
        go_meet
        exact ⟨by simp [hla], hs⟩
  case rest =>
    as_aux_lemma =>
    clear hs
    obtain ⟨rfl, hs⟩ := hcut
    cases hin : (!pg.la && (last || klt pg.hi key)) with
    | true =>
      rw [bwTurn, hin, if_pos rfl] at Hs'
      apply_assumption
      have kw := hs.k0
      have k := hs.k1
      have kf := hs.f1
      unfold pathCells at k
      have hs : St K _ (blk b (.cells (pathCells nx d id pg (.slice a pg.sl.length c) (.func (.func 134) #[(.pointer (some ⟨b, 0, none⟩))] #[]) [.string key, .bool last, .string pg.hi]).toArray 206) :: _) := hs.b1.setL 18 (.string pg.hi)
      have hs := hs.u1
      go_upto_region 4 with (fail)
      clear kw k kf
      have Hs := Lib.hid hs
      clear hs
      refine region_two [false, false, false, false, false, true, true] 5 6
        (fun W => St K W (blk w.heap.size (.cells #[.int .i64 (pg).lev, (.slice a pg.sl.length c), .string (pg).hi, .bool (pg).la, .int .u64 (pg).ri] 25) :: blk b (.cells (pathCells nx d id pg (.slice a pg.sl.length c) (.func (.func 134) #[(.pointer (some ⟨b, 0, none⟩))] #[]) [.string key, .bool last, .string pg.hi]).toArray 206) :: slC (.slice a pg.sl.length c) pg :: F))
        (fun v W => ∃ o, v = stV o ∧ ∃ B : VisB, o = fdPv b B (fdGo ⟨0, id, pg, rd0⟩ pg.ri).pc ∧ St K W (blk w.heap.size (.cells #[.int .i64 (pg).lev, (.slice a pg.sl.length c), .string (pg).hi, .bool (pg).la, .int .u64 (pg).ri] 25) :: (bwL b nx B (.slice a pg.sl.length c) (.slice none 0 0) d key last ⟨fdGo ⟨0, id, pg, rd0⟩ pg.ri, pg.hi⟩ ++ F)))
        (fun v u W => u = v ∧ ∃ o, v = stV o ∧ ∃ B : VisB, o = fdPv b B (fdGo ⟨0, id, pg, rd0⟩ pg.ri).pc ∧ St K W (blk w.heap.size (.cells #[.int .i64 (pg).lev, (.slice a pg.sl.length c), .string (pg).hi, .bool (pg).la, .int .u64 (pg).ri] 25) :: (bwL b nx B (.slice a pg.sl.length c) (.slice none 0 0) d key last ⟨fdGo ⟨0, id, pg, rd0⟩ pg.ri, pg.hi⟩ ++ F)))
        (fun W => ∃ cs, St K W (blk w.heap.size (.cells #[.int .i64 (pg).lev, (.slice a pg.sl.length c), .string (pg).hi, .bool (pg).la, .int .u64 (pg).ri] 25) :: cs)) ?aS1 (by decide) (by kernel_rfl) ?hB1 ?H1 ?haS1 Hs.out ?hI1 ?hR1 ?hE11 ?hE21 ?hQ1
      case hB1 => as_aux_lemma => kernel_rfl
      case H1 =>
        rintro W2 ⟨cs, hs⟩
        have k1 := hs.k0
        clear hs
        simp only [withM]
        repeat (go_big_quiet_step (fail))
        refine wpQuiet_nil ?_
        rfl
      case haS1 => rfl
      case hI1 => exact ⟨fun W h => ⟨_, h⟩, fun v W ⟨_, _, _, _, h⟩ => ⟨_, h⟩, fun v u W ⟨_, _, _, _, _, h⟩ => ⟨_, h⟩⟩
      case hR1 => exact ⟨fun W W' h hb => h.same hb, fun v W W' ⟨o, e, B, e2, h⟩ hb => ⟨o, e, B, e2, h.same hb⟩, fun v u W W' ⟨e0, o, e, B, e2, h⟩ hb => ⟨e0, o, e, B, e2, h.same hb⟩⟩
      case hE11 =>
        intro R2' o ho ρ W2 hs hk af haf
        obtain rfl := Option.some.inj ho
        subst haf
        have Hk := Lib.hid hk
        clear hk
        go_wp2_with fail
        refine (visitAnyB_st (id' := pg.ri) (by exact hri) hs.b1).mono ?_
        rintro e w3 ⟨o, rfl, B, ho, hs⟩
        cases o with
        | none =>
          simp only [stV]
          go_wp2
          exact ⟨rfl, _, rfl, Hk.out _ _ ⟨none, rfl, B, ho, hs⟩⟩
        | some f =>
          simp only [stV]
          go_wp2
          exact ⟨rfl, _, rfl, Hk.out _ _ ⟨some f, rfl, B, ho, hs⟩⟩
      case hE21 =>
        rintro R2' o ho ρ v W2 ⟨ov, rfl, B, hov, hs⟩ hk af haf
        obtain rfl := Option.some.inj ho
        have Hk := Lib.hid hk
        clear hk
        simp only [dstAt, List.getElem?_cons_succ, List.getElem?_cons_zero, Option.bind_some, Act.put, List.setIfInBounds_toArray, List.set_cons_zero, List.set_cons_succ] at haf
        subst haf
        have Hov := Lib.hid hov
        clear hov
        cases ov with
        | none =>
          simp only [stV]
          go_wp2
          exact ⟨rfl, _, rfl, Hk.out _ _ ⟨rfl, none, rfl, B, Hov.out, hs⟩⟩
        | some f =>
          simp only [stV]
          go_wp2
          exact ⟨rfl, _, rfl, Hk.out _ _ ⟨rfl, some f, rfl, B, Hov.out, hs⟩⟩
      case hQ1 =>
        rintro v u W2 ⟨rfl, ov, rfl, B, hov, hs⟩
        simp only [dstAt, List.getElem?_cons_succ, List.getElem?_cons_zero, Option.bind_some, Act.put, List.setIfInBounds_toArray, List.set_cons_zero, List.set_cons_succ]
        have Hov := Lib.hid hov
        clear hov
        cases ov with
        | none =>
          simp only [stV]
          go_wp2
          go_ret
          exact ⟨none, rfl, by rw [Hs'.out]; exact ⟨B, _, Hov.out, hs.tail⟩⟩
        | some f =>
          simp only [stV]
          go_wp2
          go_ret
          exact ⟨some f, rfl, by rw [Hs'.out]; exact ⟨B, _, Hov.out, hs.tail⟩⟩
    | false =>
      rw [bwTurn, hin, if_neg (by simp)] at Hs'
      apply_assumption
      have kw := hs.k0
      by_cases hlv : pg.lev = 0
      · rw [if_pos hlv] at Hs'
        rw [hlv] at kw
        go_wp2
        go_ret
        exact ⟨none, rfl, by rw [Hs'.out]; exact ⟨⟨0, 0, 0, 0, 0, 0⟩, .slice a pg.sl.length c, rfl, hs.tail⟩⟩
      rw [if_neg hlv] at Hs'
      have hlv2 : (pg.lev == 0) = false := by simp [hlv]
      have Hlv := Lib.hid hlv
      clear hlv
      obtain ⟨sv, hsv, hsr⟩ : ∃ sv : Sl, slVal (slOpt pg.sl (((if last then pg.sl.length else loK pg.sl key : Nat) : Int) - 1)) = .agg #[.string sv.k, .int .u64 sv.r] ∧ bwSlot key last pg.sl = sv := by
        unfold bwSlot
        cases slOpt pg.sl (((if last then pg.sl.length else loK pg.sl key : Nat) : Int) - 1) with
        | none => exact ⟨⟨⟨#[]⟩, 0⟩, rfl, rfl⟩
        | some s => exact ⟨s, rfl, rfl⟩
      have hsr0 : 0 ≤ sv.r := by
        rw [← hsr]
        unfold bwSlot slOpt
        generalize (((if last then pg.sl.length else loK pg.sl key : Nat) : Int) - 1) = q
        split
        · rename_i s hx
          split at hx
          · cases hx
          · exact hrf s (List.mem_of_getElem? hx)
        · exact Int.le_refl 0
      rw [hsr] at Hs'
      go_upto_region 7 with (fail)
      clear kw hlv2
      obtain ⟨w4, hw4⟩ : ∃ w4, w4 = wc := ⟨_, rfl⟩
      rw [← hw4] at hs ⊢
      clear hw4
      have hsl := (show St K w4 (rowC (.slice a pg.sl.length c) 132 2 pg.sl.length (slRow pg.sl) :: _) from hs.b2).row_slots (by omega)
      have Qc := Lib.hid (fun W (hb : Below w4.heap.size w4 W) => below_any (cap := c) (key := key) (last := last) W (hsl.same hb) hasc)
      rw [hsv] at Qc
      generalize (slOpt pg.sl (((if last then pg.sl.length else loK pg.sl key : Nat) : Int) - 1)).isSome = bo at Qc
      clear hsv hsr hsl
      have Hs := Lib.hid hs
      clear hs
      refine region_two [false, false, false, false, false, false, false, false, false, false, false, false, false, true, true, false] 13 14
        (fun W => St K W (blk w.heap.size (.cells #[.int .i64 (pg).lev, (.slice a pg.sl.length c), .string (pg).hi, .bool (pg).la, .int .u64 (pg).ri] 25) :: blk b (.cells (pathCells nx d id pg (.slice a pg.sl.length c) (.func (.func 134) #[(.pointer (some ⟨b, 0, none⟩))] #[]) [.string key, .bool last, .string low]).toArray 206) :: slC (.slice a pg.sl.length c) pg :: F) ∧ Below w4.heap.size w4 W)
        (fun v W => ∃ bn : Nat, v = (.pointer (some ⟨bn, 0, none⟩)) ∧ St K W (blk bn (.cells #[.string ⟨#[]⟩, .int .u64 0] 132) :: blk w.heap.size (.cells #[.int .i64 (pg).lev, (.slice a pg.sl.length c), .string (pg).hi, .bool (pg).la, .int .u64 (pg).ri] 25) :: blk b (.cells (pathCells nx d id pg (.slice a pg.sl.length c) (.func (.func 134) #[(.pointer (some ⟨b, 0, none⟩))] #[]) [.string key, .bool last, .string low]).toArray 206) :: slC (.slice a pg.sl.length c) pg :: F) ∧ w4.heap.size ≤ bn ∧ Below w4.heap.size w4 W)
        (fun v u W => u = undef ∧ ∃ bn : Nat, v = (.pointer (some ⟨bn, 0, none⟩)) ∧ St K W (blk bn (.cells #[.string sv.k, .int .u64 sv.r] 132) :: blk w.heap.size (.cells #[.int .i64 (pg).lev, (.slice a pg.sl.length c), .string (pg).hi, .bool (pg).la, .int .u64 (pg).ri] 25) :: blk b (.cells (pathCells nx d id pg (.slice a pg.sl.length c) (.func (.func 134) #[(.pointer (some ⟨b, 0, none⟩))] #[]) [.string key, .bool last, .string low]).toArray 206) :: slC (.slice a pg.sl.length c) pg :: F) ∧ w4.heap.size ≤ bn ∧ Below w4.heap.size w4 W)
        (fun W => ∃ cs, St K W (blk w.heap.size (.cells #[.int .i64 (pg).lev, (.slice a pg.sl.length c), .string (pg).hi, .bool (pg).la, .int .u64 (pg).ri] 25) :: blk b (.cells (pathCells nx d id pg (.slice a pg.sl.length c) (.func (.func 134) #[(.pointer (some ⟨b, 0, none⟩))] #[]) [.string key, .bool last, .string low]).toArray 206) :: cs) ∧ Below w4.heap.size w4 W) ?aS3 (by decide) (by kernel_rfl) ?hB3 ?H3 ?haS3 ⟨Hs.out, Below.refl _ _⟩ ?hI3 ?hR3 ?hE13 ?hE23 ?hQ3
      case hB3 => as_aux_lemma => kernel_rfl
      case H3 =>
        rintro W2 ⟨cs, hs, hb⟩
        have k1 := hs.k0
        have k2 := hs.k1
        unfold pathCells at k2
        have Qy := Lib.hid (fun wz (hy : ∃ x : Ext, wz = over W2 x) => Qc.out wz (hb.trans ((Pure.below hy).mono hb.size)))
        clear hs hb
        simp only [withM]
        repeat (go_big_quiet_step ((go_at_call 170; exact pure_of (Qy.out _ ⟨_, rfl⟩))))
        refine wpQuiet_nil ?_
        rfl
      case haS3 => rfl
      case hI3 => exact ⟨fun W h => ⟨_, h⟩, fun v W ⟨_, _, h, _, hb⟩ => ⟨_, h.tail, hb⟩, fun v u W ⟨_, _, _, h, _, hb⟩ => ⟨_, h.tail, hb⟩⟩
      case hR3 => exact ⟨fun W W' ⟨h, hb0⟩ hb => ⟨h.same hb, hb0.trans (hb.mono hb0.size)⟩, fun v W W' ⟨bn, e, h, hbn, hb0⟩ hb => ⟨bn, e, h.same hb, hbn, hb0.trans (hb.mono hb0.size)⟩, fun v u W W' ⟨e0, bn, e, h, hbn, hb0⟩ hb => ⟨e0, bn, e, h.same hb, hbn, hb0.trans (hb.mono hb0.size)⟩⟩
      case hE13 =>
        rintro R2' o ho ρ W2 ⟨hs, hb⟩ hk af haf
        obtain rfl := Option.some.inj ho
        subst haf
        have Hk := Lib.hid hk
        clear hk
        have hs := hs.made (.cells #[.string ⟨#[]⟩, .int .u64 0] 132)
        go_wp2
        exact ⟨rfl, _, rfl, Hk.out _ _ ⟨_, rfl, hs, hb.size, hb.alloc hb.size _⟩⟩
      case hE23 =>
        rintro R2' o ho ρ v W2 ⟨bn, rfl, hs, hbn, hb⟩ hk af haf
        obtain rfl := Option.some.inj ho
        have Hk := Lib.hid hk
        clear hk
        simp only [dstAt, List.getElem?_cons_succ, List.getElem?_cons_zero, Option.bind_some, Act.put, List.setIfInBounds_toArray, List.set_cons_zero, List.set_cons_succ] at haf
        subst haf
        have k0 := hs.k0
        have f0 := hs.f0
        have hs2 := (hs.setL 0 (.string sv.k)).setL 1 (.int .u64 sv.r)
        simp only [List.set_cons_zero, List.set_cons_succ] at hs2
        have hb2 : Below w4.heap.size w4 ((W2.setCell ⟨bn, 0, none⟩ (.string sv.k)).setCell ⟨bn, 1, none⟩ (.int .u64 sv.r)) := (hb.setCell hbn _).setCell hbn _
        have Hb2 := Lib.hid hb2
        clear hb hb2
        go_wp2
        exact ⟨rfl, undef, rfl, Hk.out _ _ ⟨rfl, bn, rfl, hs2, hbn, Hb2.out⟩⟩
      case hQ3 =>
        rintro v u W2 ⟨rfl, bn, rfl, hs, hbn, hb⟩
        simp only [dstAt, List.getElem?_cons_succ, List.getElem?_cons_zero, Option.bind_some, Act.put, List.setIfInBounds_toArray, List.set_cons_zero, List.set_cons_succ]
        clear hb hbn
        have kw := hs.k0
        have k := hs.k2
        have kf := hs.f2
        unfold pathCells at k
        have hs : St K _ (blk b (.cells (pathCells nx d id pg (.slice a pg.sl.length c) (.func (.func 134) #[(.pointer (some ⟨b, 0, none⟩))] #[]) [.string key, .bool last, .string sv.k]).toArray 206) :: _) := hs.b2.setL 18 (.string sv.k)
        have hs := hs.u2
        go_upto_region 9 with (fail)
        clear kw k kf
        have Hs2 := Lib.hid hs
        clear hs
        refine region_two [false, false, false, false, false, true, true] 5 6
          (fun W => St K W (blk bn (.cells #[.string sv.k, .int .u64 sv.r] 132) :: blk b (.cells (pathCells nx d id pg (.slice a pg.sl.length c) (.func (.func 134) #[(.pointer (some ⟨b, 0, none⟩))] #[]) [.string key, .bool last, .string sv.k]).toArray 206) :: slC (.slice a pg.sl.length c) pg :: F))
          (fun v W => ∃ o, v = stV o ∧ ∃ B : VisB, o = fdPv b B (fdGo ⟨0, id, pg, rd0⟩ sv.r).pc ∧ St K W (blk bn (.cells #[.string sv.k, .int .u64 sv.r] 132) :: (bwL b nx B (.slice a pg.sl.length c) (.slice none 0 0) d key last ⟨fdGo ⟨0, id, pg, rd0⟩ sv.r, sv.k⟩ ++ F)))
          (fun v u W => u = v ∧ ∃ o, v = stV o ∧ ∃ B : VisB, o = fdPv b B (fdGo ⟨0, id, pg, rd0⟩ sv.r).pc ∧ St K W (blk bn (.cells #[.string sv.k, .int .u64 sv.r] 132) :: (bwL b nx B (.slice a pg.sl.length c) (.slice none 0 0) d key last ⟨fdGo ⟨0, id, pg, rd0⟩ sv.r, sv.k⟩ ++ F)))
          (fun W => ∃ cs, St K W (blk bn (.cells #[.string sv.k, .int .u64 sv.r] 132) :: cs)) ?aS4 (by decide) (by kernel_rfl) ?hB4 ?H4 ?haS4 Hs2.out.drop1 ?hI4 ?hR4 ?hE14 ?hE24 ?hQ4
        case hB4 => as_aux_lemma => kernel_rfl
        case H4 =>
          rintro W2 ⟨cs, hs⟩
          have k1 := hs.k0
          clear hs
          simp only [withM]
          repeat (go_big_quiet_step (fail))
          refine wpQuiet_nil ?_
          rfl
        case haS4 => rfl
        case hI4 => exact ⟨fun W h => ⟨_, h⟩, fun v W ⟨_, _, _, _, h⟩ => ⟨_, h⟩, fun v u W ⟨_, _, _, _, _, h⟩ => ⟨_, h⟩⟩
        case hR4 => exact ⟨fun W W' h hb => h.same hb, fun v W W' ⟨o, e, B, e2, h⟩ hb => ⟨o, e, B, e2, h.same hb⟩, fun v u W W' ⟨e0, o, e, B, e2, h⟩ hb => ⟨e0, o, e, B, e2, h.same hb⟩⟩
        case hE14 =>
          intro R2' o ho ρ W2 hs hk af haf
          obtain rfl := Option.some.inj ho
          subst haf
          have Hk := Lib.hid hk
          clear hk
          go_wp2_with fail
          refine (visitAnyB_st (id' := sv.r) (by exact hsr0) hs.b1).mono ?_
          rintro e w3 ⟨o, rfl, B, ho, hs⟩
          cases o with
          | none =>
            simp only [stV]
            go_wp2
            exact ⟨rfl, _, rfl, Hk.out _ _ ⟨none, rfl, B, ho, hs⟩⟩
          | some f =>
            simp only [stV]
            go_wp2
            exact ⟨rfl, _, rfl, Hk.out _ _ ⟨some f, rfl, B, ho, hs⟩⟩
        case hE24 =>
          rintro R2' o ho ρ v W2 ⟨ov, rfl, B, hov, hs⟩ hk af haf
          obtain rfl := Option.some.inj ho
          have Hk := Lib.hid hk
          clear hk
          simp only [dstAt, List.getElem?_cons_succ, List.getElem?_cons_zero, Option.bind_some, Act.put, List.setIfInBounds_toArray, List.set_cons_zero, List.set_cons_succ] at haf
          subst haf
          have Hov := Lib.hid hov
          clear hov
          cases ov with
          | none =>
            simp only [stV]
            go_wp2
            exact ⟨rfl, _, rfl, Hk.out _ _ ⟨rfl, none, rfl, B, Hov.out, hs⟩⟩
          | some f =>
            simp only [stV]
            go_wp2
            exact ⟨rfl, _, rfl, Hk.out _ _ ⟨rfl, some f, rfl, B, Hov.out, hs⟩⟩
        case hQ4 =>
          rintro v u W2 ⟨rfl, ov, rfl, B, hov, hs⟩
          simp only [dstAt, List.getElem?_cons_succ, List.getElem?_cons_zero, Option.bind_some, Act.put, List.setIfInBounds_toArray, List.set_cons_zero, List.set_cons_succ]
          have Hov := Lib.hid hov
          clear hov
          cases ov with
          | none =>
            simp only [stV]
            go_wp2
            go_ret
            exact ⟨none, rfl, by rw [Hs'.out]; exact ⟨B, _, Hov.out, hs.tail⟩⟩
          | some f =>
            simp only [stV]
            go_wp2
            go_ret
            exact ⟨some f, rfl, by rw [Hs'.out]; exact ⟨B, _, Hov.out, hs.tail⟩⟩
end
end Go.Proofs.Ytfgjanponijkhaa

namespace Go.Proofs.Ytfgjanponijkhaa
open Go.RowKit
set_option maxRecDepth 100000
/-- What Below has found. -/
def BwRes (t : List (List Nd)) (key : ByteArray) (last : Bool) (s : BwS) : Prop :=
  ∃ (l : List Nd) (i : Nat) (nd : Nd), t[0]? = some l ∧ l[i]? = some nd ∧ s.f.id = nd.id ∧ s.f.pg = nd.pg ∧ s.low = nd.low ∧ (last = true ∨ klt nd.low key = true) ∧ (nd.pg.la = true ∨ (last = false ∧ klt nd.pg.hi key = false))
/-- Where Below is; at most m steps are left. -/
def BwInv (d : Cfg) (L : List Cel) (t : List (List Nd)) (key : ByteArray) (last : Bool) (s : BwS) (m : Nat) : Prop :=
  (s.f.pc = 0 ∧ s.low = ⟨#[]⟩ ∧ (t.map List.length).sum * nodeSteps d + 1 ≤ m) ∨
  (s.f.pc = 1 ∧ ∃ (k i : Nat) (l : List Nd) (nd : Nd) (n : Nat), t[k]? = some l ∧ l[i]? = some nd ∧ s.f.id = nd.id ∧ s.f.rd = it (rdStep d nd.id L) n rd0 ∧ s.f.rd.pc < 6 ∧ s.low = nd.low ∧ (last = true ∨ klt nd.low key = true) ∧
    (l.length - i + belowN t k - 1) * nodeSteps d + (nodeSteps d - n) ≤ m) ∨
  (s.f.pc = 2 ∧ BwRes t key last s)
/-- What turn wants of a page. -/
structure PgGoodB (pg : Pg) : Prop where
  ri : 0 ≤ pg.ri
  rf : ∀ s, s ∈ pg.sl → 0 ≤ s.r
  asc : Asc pg.sl
section
variable {d : Cfg} {L : List Cel} {t : List (List Nd)} {key : ByteArray} {last : Bool} {s : BwS} {m : Nat}
theorem BwInv.start : BwInv d L t key last bw0 ((t.map List.length).sum * nodeSteps d + 1) := .inl ⟨rfl, rfl, Nat.le_refl _⟩
theorem BwInv.go (ht : TreeOk d L t) {k i : Nat} {l : List Nd} {nd : Nd} (hk : t[k]? = some l) (hi : l[i]? = some nd) (hlow : last = true ∨ klt nd.low key = true) {s0 : FdS}
    (hm : (l.length - i + belowN t k) * nodeSteps d ≤ m) : BwInv d L t key last ⟨fdGo s0 nd.id, nd.low⟩ m := by
  have hid := (ht.nodes k l hk nd (List.mem_of_getElem? hi)).id.1
  have hil := (List.getElem?_eq_some_iff.1 hi).1
  have e : fdGo s0 nd.id = ⟨1, nd.id, s0.pg, rd0⟩ := by unfold fdGo; rw [if_neg (by omega)]
  rw [e]
  refine .inr (.inl ⟨rfl, k, i, l, nd, 0, hk, hi, rfl, rfl, (show (0 : Nat) < 6 by omega), rfl, hlow, ?_⟩)
  have h1 : l.length - i + belowN t k = (l.length - i + belowN t k - 1) + 1 := by omega
  rw [h1, Nat.add_mul, Nat.one_mul] at hm
  omega
theorem BwInv.step (hd : d.Ok) (hL : CelsOk L) (ht : TreeOk d L t) (hkey : last = true ∨ klt ⟨#[]⟩ key = true) (h : BwInv d L t key last s m) (hpc : s.f.pc ≠ 2) :
    1 ≤ m ∧ BwInv d L t key last (bwStep d L key last s) (m - 1) ∧ s.f.Ok d ∧ (s.f.pc = 1 → (rdStep d s.f.id L s.f.rd).pc = 6 → PgGoodB (rdStep d s.f.id L s.f.rd).pg) := by
  have hfa := hd.fa1
  have hno2 := hd.no2
  rcases h with ⟨h0, hlw, hm⟩ | ⟨h1, k, i, l, nd, n, hk, hi, hid, hrd, h6, hlw, hlow, hm⟩ | ⟨h2, _⟩
  · obtain ⟨⟨pc, id, pg, rd⟩, low⟩ := s
    simp only at h0 hlw
    subst h0 hlw
    obtain ⟨nd, htop, hroot⟩ := ht.top
    refine ⟨by omega, ?_, ⟨(show (0 : Nat) ≤ 2 by omega), fun h => by cases h⟩, fun h => by cases h⟩
    have hne := ht.ne
    have hfirst := (ht.rows _ _ htop).first nd rfl
    show BwInv d L t key last ⟨fdGo _ (getC L 0).n, ⟨#[]⟩⟩ _
    rw [hroot, ← hfirst]
    refine BwInv.go ht htop (i := 0) rfl (by rw [hfirst]; exact hkey) ?_
    have hb := belowN_succ htop
    have hle := belowN_le t (t.length - 1 + 1)
    have e : [nd].length - 0 + belowN t (t.length - 1) ≤ (t.map List.length).sum := by
      simp only [List.length_cons, List.length_nil] at hb ⊢; omega
    have := Nat.mul_le_mul_right (nodeSteps d) e
    omega
  · obtain ⟨⟨pc, id, pg, rd⟩, low⟩ := s
    simp only at h1 hid hrd h6 hlw
    subst h1 hid hlw
    have hmem := List.mem_of_getElem? hi
    have hN := ht.nodes k l hk nd hmem
    have hR := ht.rows k l hk
    have hil := (List.getElem?_eq_some_iff.1 hi).1
    have hchg : ltChg (getC L (d.node nd.id 0)).n = false := by rw [hN.free]; rfl
    have hle := hN.page.le
    have hn5 : n < nd.pg.sl.length + 5 := rd_more hN.page hchg rfl (by rw [← hrd]; exact h6)
    have hns : nodeSteps d = d.fa.toNat + 5 := rfl
    have hrdok : rd.Ok d := by rw [hrd]; exact rd_oks hd hL (rd0_ok d) n
    have hnext : rdStep d nd.id L rd = it (rdStep d nd.id L) (n + 1) rd0 := by rw [it_succ, ← hrd]
    have hpage : (rdStep d nd.id L rd).pc = 6 → (rdStep d nd.id L rd).pg = nd.pg := fun h => by
      rw [hnext] at h ⊢
      exact rd_page hN.page hchg rfl h
    refine ⟨by omega, ?_, ⟨by show 1 ≤ 2; omega, fun _ => ⟨hN.id.1, by have := hN.id.2; show nd.id < _; omega, hrdok, by show rd.pc ≤ 5; omega⟩⟩, fun _ h => ?_⟩
    rotate_left
    · show PgGoodB (rdStep d nd.id L rd).pg
      rw [hpage h]
      refine ⟨?_, hN.rf, hN.asc⟩
      rcases Nat.lt_or_ge (i + 1) l.length with hlt | hge
      · obtain ⟨b, hb⟩ : ∃ b, l[i + 1]? = some b := ⟨_, List.getElem?_eq_getElem hlt⟩
        rw [(hR.next i nd b hi hb).2.2.1]
        have := (ht.nodes k l hk b (List.mem_of_getElem? hb)).id.1
        omega
      · rw [(hR.last i nd hi (by omega)).2.2]; omega
    by_cases h6' : (rdStep d nd.id L rd).pc = 6
    · have e : bwStep d L key last ⟨⟨1, nd.id, pg, rd⟩, nd.low⟩ = bwTurn key last nd.id nd.pg nd.low := by
        show (if _ then _ else _) = _
        rw [if_pos h6', hpage h6']
      rw [e]
      have hlevk := hR.lev nd hmem
      have hrem : 1 ≤ l.length - i + belowN t k := by omega
      have hmm : (l.length - i + belowN t k - 1) * nodeSteps d ≤ m - 1 := by omega
      unfold bwTurn
      cases hin : (!nd.pg.la && (last || klt nd.pg.hi key)) with
      | true =>
        rw [if_pos rfl]
        simp only [Bool.and_eq_true, Bool.not_eq_true', Bool.or_eq_true] at hin
        have hlt2 : i + 1 < l.length := by
          rcases Nat.lt_or_ge (i + 1) l.length with h | h
          · exact h
          · have := (hR.last i nd hi (by omega)).1
            rw [hin.1] at this; cases this
        obtain ⟨b, hb⟩ : ∃ b, l[i + 1]? = some b := ⟨_, List.getElem?_eq_getElem hlt2⟩
        obtain ⟨_, q2, q3, _⟩ := hR.next i nd b hi hb
        rw [q3, q2]
        refine BwInv.go ht hk hb (by rw [← q2]; exact hin.2) ?_
        have e2 : l.length - (i + 1) + belowN t k ≤ l.length - i + belowN t k - 1 := by omega
        exact Nat.le_trans (Nat.mul_le_mul_right _ e2) hmm
      | false =>
        rw [if_neg (by simp)]
        by_cases heq : nd.pg.lev = 0
        · rw [if_pos heq]
          have hkl : k = 0 := by omega
          subst hkl
          refine .inr (.inr ⟨rfl, l, i, nd, hk, hi, rfl, rfl, rfl, hlow, ?_⟩)
          cases hla : nd.pg.la with
          | true => exact .inl rfl
          | false =>
            rw [hla, Bool.not_false, Bool.true_and, Bool.or_eq_false_iff] at hin
            exact .inr hin
        · rw [if_neg heq]
          obtain ⟨k', rfl⟩ : ∃ k', k = k' + 1 := ⟨k - 1, by omega⟩
          obtain ⟨l', hk'⟩ : ∃ l', t[k']? = some l' := ⟨_, List.getElem?_eq_getElem (by have := (List.getElem?_eq_some_iff.1 hk).1; omega)⟩
          obtain ⟨⟨s0, r, hsl, hs0⟩, hall⟩ := ht.down k' l' l hk' hk nd hmem
          obtain ⟨q, hq⟩ : ∃ q : Nat, q = (if last then nd.pg.sl.length else loK nd.pg.sl key) := ⟨_, rfl⟩
          have hpos : 0 < q := by
            rw [hq]
            cases last with
            | true => simp [hsl]
            | false =>
              have h2 : klt nd.low key = true := by rcases hlow with h | h; cases h; exact h
              simp only [Bool.false_eq_true, if_false]
              exact (loK_iff hN.asc (i := 0) (s := s0) (by rw [hsl]; rfl)).1 (by rw [hs0]; exact h2)
          have hhle : q ≤ nd.pg.sl.length := by
            rw [hq]; split
            · omega
            · exact loK_le _ _
          obtain ⟨sv, hsv⟩ : ∃ sv, nd.pg.sl[q - 1]? = some sv := ⟨_, List.getElem?_eq_getElem (by omega)⟩
          have hsk : last = true ∨ klt sv.k key = true := by
            cases hl : last with
            | true => exact .inl rfl
            | false =>
              rw [hl] at hq
              simp only [Bool.false_eq_true, if_false] at hq
              exact .inr ((loK_iff hN.asc (key := key) hsv).2 (by omega))
          have hcr : bwSlot key last nd.pg.sl = sv := by
            unfold bwSlot slOpt
            rw [← hq, if_neg (by omega), show ((q : Int) - 1).toNat = q - 1 by omega, hsv]
          obtain ⟨c, hc, hcid, hclow⟩ := hall sv (List.mem_of_getElem? hsv)
          obtain ⟨j, hj⟩ := List.getElem?_of_mem hc
          rw [hcr, ← hcid, ← hclow]
          refine BwInv.go ht hk' hj (by rw [hclow]; exact hsk) ?_
          have hb := belowN_succ hk'
          have e2 : l'.length - j + belowN t k' ≤ l.length - i + belowN t (k' + 1) - 1 := by omega
          exact Nat.le_trans (Nat.mul_le_mul_right _ e2) hmm
    · have e : bwStep d L key last ⟨⟨1, nd.id, pg, rd⟩, nd.low⟩ = ⟨⟨1, nd.id, pg, rdStep d nd.id L rd⟩, nd.low⟩ := by
        show (if _ then _ else _) = _
        rw [if_neg h6']
      rw [e]
      have hok := rdStep_ok hd (id := nd.id) hL hrdok
      refine .inr (.inl ⟨rfl, k, i, l, nd, n + 1, hk, hi, rfl, hnext, by have := hok.pc; show (rdStep d nd.id L rd).pc < 6; omega, rfl, hlow, by omega⟩)
  · exact absurd h2 hpc
theorem BwInv.done (h : BwInv d L t key last s m) (h2 : 2 ≤ s.f.pc) : s.f.pc = 2 ∧ BwRes t key last s := by
  rcases h with ⟨h, _⟩ | ⟨h, _⟩ | ⟨h, r⟩
  · omega
  · omega
  · exact ⟨h, r⟩
end
end Go.Proofs.Ytfgjanponijkhaa

namespace Go.Proofs.Ytfgjanponijkhaa
open Go.RowKit
set_option maxRecDepth 100000
theorem belowTurnEnters : Enters 134 := fun _ _ => by kernel_rfl
theorem nilEnters : Enters 135 := fun _ _ => by kernel_rfl
section
variable {K : Know} {w : World} {F : List Comp} {b bm bc : Nat} {va va2 : Value} {d : Cfg} {L : List Cel} {acc : Nat} {key : ByteArray} {last : Bool} {s : BwS} {B : VisB}
/-- What a step leaves. -/
def BwP (K : Know) (b bm bc : Nat) (d : Cfg) (L : List Cel) (acc : Nat) (key : ByteArray) (last : Bool) (F : List Comp) (s : BwS) (e : Ending) (w' : World) : Prop :=
  ∃ (x : VisB × Value × Value), e = .returned (.bool (fdPv b x.1 s.f.pc).isNone) ∧ St K w' (bwL b (stV (fdPv b x.1 s.f.pc)) x.1 x.2.1 x.2.2 d key last s ++ memC bm bc L acc :: F)

/-- The rest of a Find's cells. -/
def bwTl (b : Nat) (va : Value) (d : Cfg) (key : ByteArray) (last : Bool) (s : BwS) : List Value := (pathCells (.nilFunc) d s.f.id s.f.pg va (.func (.func 134) #[(.pointer (some ⟨b, 0, none⟩))] #[]) [.string key, .bool last, .string s.low]).tail

theorem belowRun_st (hd : d.Ok) (hL : CelsOk L) (ha : acc ≤ 1000000000000) (hok : s.f.Ok d) (hpg : s.f.pc = 1 → (rdStep d s.f.id L s.f.rd).pc = 6 → PgGoodB (rdStep d s.f.id L s.f.rd).pg)
    (hs : St K w (bwL b (stV (fdPv b B s.f.pc)) B va va2 d key last s ++ memC bm bc L acc :: F)) :
    Calls Try.prog 103 #[(.pointer (some ⟨b, 0, none⟩)), (.pointer (some ⟨bm, 0, none⟩))] w fun e w' => BwP K b bm bc d L (fdAcc s.f.pc acc) key last F (bwStep d L key last s) e w' := by
  obtain ⟨⟨pc, id, pg, rd⟩, low⟩ := s
  have hc : w.cell? ⟨b, 0, none⟩ = some (stV (fdPv b B pc)) := by
    have hs' : St K w (blk b (.cells (pathCells (stV (fdPv b B pc)) d id pg va (.func (.func 134) #[(.pointer (some ⟨b, 0, none⟩))] #[]) [.string key, .bool last, .string low]).toArray 206) :: _) := hs
    exact hs'.k0 0
  match pc, hok, hpg, hs, hc with
  | 0, hok, hpg, hs, hc =>
    have hs : St K w (blk b (.cells (pathCells (stV (some (rootFV b))) d id pg va (.func (.func 134) #[(.pointer (some ⟨b, 0, none⟩))] #[]) [.string key, .bool last, .string low]).toArray 206) :: slC va pg :: memC bm bc L acc :: F) := hs
    refine (runStep_of (K := K) (α := VisB × Value × Value) (f := rootFV b) (o := fun x => fdPv b x.1 (bwStep d L key last ⟨⟨0, id, pg, rd⟩, low⟩).f.pc) (nx := stV (some (rootFV b)))
      (tl := fun x => bwTl b x.2.1 d key last (bwStep d L key last ⟨⟨0, id, pg, rd⟩, low⟩))
      (F' := fun x => (bwL b .nilFunc x.1 x.2.1 x.2.2 d key last (bwStep d L key last ⟨⟨0, id, pg, rd⟩, low⟩)).tail ++ memC bm bc L (acc + 1) :: F) (T := 206) rootEnters hc ?_).mono (fun e w' h => h)
    show Calls Try.prog 131 #[(.pointer (some ⟨b, 2, none⟩)), (.pointer (some ⟨bm, 0, none⟩))] w _
    refine (root_st ha hL (hs.re [0, 2, 1] rfl)).mono ?_
    rintro e w1 (⟨h0, rfl, hs⟩ | ⟨h1, B', rfl, hs⟩)
    · have e1 : bwStep d L key last ⟨⟨0, id, pg, rd⟩, low⟩ = ⟨⟨0, id, pg, rd0⟩, low⟩ := by
        show (⟨fdGo _ (getC L 0).n, low⟩ : BwS) = _
        unfold fdGo; rw [if_pos h0]
      rw [e1]
      exact ⟨(B, va, va2), rfl, hs.re [0, 2, 1] rfl⟩
    · have e1 : bwStep d L key last ⟨⟨0, id, pg, rd⟩, low⟩ = ⟨⟨1, (getC L 0).n, pg, rd0⟩, low⟩ := by
        show (⟨fdGo _ (getC L 0).n, low⟩ : BwS) = _
        unfold fdGo; rw [if_neg (by omega)]
      rw [e1]
      exact ⟨(B', va, .slice none 0 0), rfl, hs.re [0, 7, 1, 2, 3, 4, 5, 6] rfl⟩
  | 1, hok, hpg, hs, hc =>
    obtain ⟨b2, b3, b5, bt, bp, br⟩ := B
    have hs : St K w (blk b (.cells (pathCells (stV (some (callFV b2 b3 b5))) d id pg va (.func (.func 134) #[(.pointer (some ⟨b, 0, none⟩))] #[]) [.string key, .bool last, .string low]).toArray 206) :: slC va pg :: callC b2 b3 b5 (.iface 42 (.pointer (some ⟨br, 0, none⟩))) (visThen ⟨b2, b3, b5, bt, bp, br⟩) :: blk bt (.cells #[(.pointer (some ⟨br, 0, none⟩))] 42) :: blk bp (.cells #[(.pointer (some ⟨b, 2, none⟩))] 236) :: rdC br d id va2 rd :: slC va2 rd.pg :: memC bm bc L acc :: F) := hs
    obtain ⟨hid1, hid2, hrd, h5⟩ := hok.rd rfl
    simp only at hid1 hid2 hrd h5
    have hst := rdStep_ok hd (id := id) hL hrd
    refine (runStep_of (K := K) (α := VisB × Value × Value) (f := callFV b2 b3 b5) (o := fun x => fdPv b x.1 (bwStep d L key last ⟨⟨1, id, pg, rd⟩, low⟩).f.pc) (nx := stV (some (callFV b2 b3 b5)))
      (tl := fun x => bwTl b x.2.1 d key last (bwStep d L key last ⟨⟨1, id, pg, rd⟩, low⟩))
      (F' := fun x => (bwL b .nilFunc x.1 x.2.1 x.2.2 d key last (bwStep d L key last ⟨⟨1, id, pg, rd⟩, low⟩)).tail ++ memC bm bc L (acc + 1) :: F) (T := 206) callEnters hc ?_).mono (fun e w' h => h)
    show Calls Try.prog 175 #[(.pointer (some ⟨bm, 0, none⟩)), (.pointer (some ⟨b2, 0, none⟩)), (.pointer (some ⟨b3, 0, none⟩)), (.pointer (some ⟨b5, 0, none⟩))] w _
    have hrs := rdStep_st hd ⟨by omega, hid2⟩ hL ha hrd (hs.re [5, 6, 7, 0, 1, 2, 3, 4] rfl)
    rw [show rdAcc rd.pc acc = acc + 1 by unfold rdAcc; rw [if_neg (by omega)]] at hrs
    refine (callStep_st (P0 := fun w' => (rdStep d id L rd).pc ≠ 6 ∧ ∃ va', St K w' (blk b (.cells (pathCells (stV (some (callFV b2 b3 b5))) d id pg va (.func (.func 134) #[(.pointer (some ⟨b, 0, none⟩))] #[]) [.string key, .bool last, .string low]).toArray 206) :: slC va pg :: visL b ⟨b2, b3, b5, bt, bp, br⟩ d id va' (rdStep d id L rd) ++ memC bm bc L (acc + 1) :: F))
      (P1 := fun o w' => (rdStep d id L rd).pc = 6 ∧ BtP K b (stV (some (callFV b2 b3 b5))) d key last (memC bm bc L (acc + 1) :: F) (bwTurn key last id (rdStep d id L rd).pg low) o w')
      (hs.re [2, 0, 1, 3, 4, 5, 6, 7] rfl) (fun n w => method_read n _ w) readStepEnters visitThenEnters (hrs.mono ?_)).mono ?_
    · rintro e w1 ⟨va', rfl, hs⟩
      refine ⟨⟨K, _, hs.re [5, 0, 1, 2, 3, 4, 6, 7] rfl⟩, ?_⟩
      by_cases h6 : (rdStep d id L rd).pc = 6
      · refine .inr ⟨by rw [decide_eq_true (by omega)], ?_⟩
        have hg := hpg rfl h6
        simp only at hg
        have hlen : (rdStep d id L rd).pg.sl.length ≤ 1000000 := by
          have := hd.fa2
          rcases hst.len with h | h <;> omega
        have hsx : St K w1 (blk b (.cells (pathCells (stV (some (callFV b2 b3 b5))) d id pg va (.func (.func 134) #[(.pointer (some ⟨b, 0, none⟩))] #[]) [.string key, .bool last, .string low]).toArray 206) :: (visL b ⟨b2, b3, b5, bt, bp, br⟩ d id va' (rdStep d id L rd) ++ memC bm bc L (acc + 1) :: F)) := (hs.re [4, 3, 5, 6, 7, 0, 1, 2] rfl).tail
        refine (visThen_st (R := BtP K b (stV (some (callFV b2 b3 b5))) d key last (memC bm bc L (acc + 1) :: F) (bwTurn key last id (rdStep d id L rd).pg low)) belowTurnEnters h6 hlen hsx ?_).mono (fun e w2 ⟨o, he, h⟩ => ⟨o, he, h6, h⟩)
        · intro w2 va1 hs2
          exact bturn_st hg.ri hg.rf hlen hg.asc hs2
      · refine .inl ⟨by rw [decide_eq_false (by have := hst.pc; omega)], h6, va', hs.re [3, 4, 5, 6, 7, 0, 1, 2] rfl⟩
    · rintro e w1 ⟨o, rfl, ⟨rfl, h6, va', hs⟩ | ⟨h6, h⟩⟩
      · have e1 : bwStep d L key last ⟨⟨1, id, pg, rd⟩, low⟩ = ⟨⟨1, id, pg, rdStep d id L rd⟩, low⟩ := by
          show (if _ then _ else _) = _
          rw [if_neg h6]
        rw [e1]
        exact ⟨(⟨b2, b3, b5, bt, bp, br⟩, va, va'), rfl, hs⟩
      · have e1 : bwStep d L key last ⟨⟨1, id, pg, rd⟩, low⟩ = bwTurn key last id (rdStep d id L rd).pg low := by
          show (if _ then _ else _) = _
          rw [if_pos h6]
        rw [e1]
        obtain ⟨B', va', rfl, hs⟩ := h
        exact ⟨(B', va', .slice none 0 0), rfl, hs⟩
  | n + 2, hok, hpg, hs, hc =>
    obtain rfl : n = 0 := by have h := hok.pc; simp only at h; omega
    refine (runStep_end_st hs hc).mono ?_
    rintro e w' ⟨rfl, hs⟩
    exact ⟨(B, va, va2), rfl, hs⟩
theorem belowStep_st (hd : d.Ok) (hL : CelsOk L) (ha : acc ≤ 1000000000000) (hok : s.f.Ok d) (hpg : s.f.pc = 1 → (rdStep d s.f.id L s.f.rd).pc = 6 → PgGoodB (rdStep d s.f.id L s.f.rd).pg)
    (hs : St K w (bwL b (stV (fdPv b B s.f.pc)) B va va2 d key last s ++ memC bm bc L acc :: F)) :
    Calls Try.prog 82 #[(.pointer (some ⟨b, 0, none⟩)), (.pointer (some ⟨bm, 0, none⟩))] w fun e w' => e = .returned (.bool (decide (2 ≤ (bwStep d L key last s).f.pc))) ∧
      ∃ (x : VisB × Value × Value), St K w' (bwL b (stV (fdPv b x.1 (bwStep d L key last s).f.pc)) x.1 x.2.1 x.2.2 d key last (bwStep d L key last s) ++ memC bm bc L (fdAcc s.f.pc acc) :: F) := by
  have q := belowRun_st hd hL ha hok hpg hs
  have Q := Lib.hid q
  generalize bwStep d L key last s = s' at *
  generalize fdAcc s.f.pc acc = acc' at *
  clear q hs hpg
  go_enter Try.func82, Try.ntmps82
  go_wp2_with fail
  refine (Q.out).mono ?_
  rintro e w1 ⟨x, rfl, hs⟩
  rw [fdPv_none]
  have Hs := Lib.hid hs
  clear hs
  go_wp2
  go_ret
  exact ⟨rfl, x, Hs.out⟩
theorem bwNode_res (tmps : Array Value) (w : World) (b : Nat) (v0 v1 v2 v3 v4 u z : Value) (hq : tmps[2]? = some u) (hp : tmps[3]? = some (.pointer (some ⟨b, 0, none⟩))) (hz : tmps[4]? = some z) (hk : ∀ k, w.cell? ⟨b, k, none⟩ = (#[v0, v1, v2, v3, v4] : Array Value)[k]?) :
    (results Try.f83 tmps).run Try.prog w = .ok (.tuple #[u, .agg #[v0, v1, v2, v3, v4], z]) w := by
  simp [results, Try.results83, go_sem, hp, hq, hz, hk]
/-- The result of Node that is a struct: stored (11) or not. -/
def BwR (K : Know) (b1 : Nat) (pa : Array Value) (REST : List Comp) (ρ : Nat → Option Value) (W : World) : Prop :=
  St K W (blk b1 (.cells (if (ρ 11).isSome then pa else #[.int .i64 0, .slice none 0 0, .string ⟨#[]⟩, .bool false, .int .u64 0]) 25) :: REST)
set_option maxHeartbeats 2000000 in
theorem belowNode_st (h2 : s.f.pc = 2) (hn : s.f.pg.sl.length ≤ 1000000) (hs : St K w (bwL b .nilFunc B va va2 d key last s ++ F)) :
    Calls Try.prog 83 #[(.pointer (some ⟨b, 0, none⟩))] w fun e w' => ∃ va', e = .returned (.tuple #[.int .u64 s.f.id, .agg #[.int .i64 (s.f.pg).lev, va', .string (s.f.pg).hi, .bool (s.f.pg).la, .int .u64 (s.f.pg).ri], .string s.low]) ∧ St K w' (slC va' s.f.pg :: (bwL b .nilFunc B va va2 d key last s ++ F)) := by
  obtain ⟨⟨pc, id, pg, rd⟩, low⟩ := s
  simp only at h2 hn
  subst h2
  have hs : St K w (blk b (.cells (pathCells .nilFunc d id pg va (.func (.func 134) #[(.pointer (some ⟨b, 0, none⟩))] #[]) [.string key, .bool last, .string low]).toArray 206) :: slC va pg :: F) := hs
  obtain ⟨a, cap, rfl, _, _⟩ := (show St K w (rowC va 132 2 pg.sl.length (slRow pg.sl) :: _) from hs.b1).row_read
  have hsl := (show St K w (rowC (.slice a pg.sl.length cap) 132 2 pg.sl.length (slRow pg.sl) :: _) from hs.b1).row_slots (by omega)
  have Hl := Lib.hid (show (slRow pg.sl).length = pg.sl.length * 2 by rw [slRow_length])
  have H0 : Hid (a = none → pg.sl.length = 0) := Lib.hid (fun e => by subst e; rw [hsl.no]; rfl)
  have H1 := Lib.hid (slRow_one pg.sl)
  obtain ⟨iv, hiv0, hiv1, hiv2, hiv3⟩ := info_parts infoSlot
  have Hi0 := Lib.hid hiv0
  have Hi1 := Lib.hid hiv1
  have Hi2 := Lib.hid hiv2
  have Hi3 := Lib.hid hiv3
  clear hiv0 hiv1 hiv2 hiv3
  have hs1 := hs.made (.cells #[.int .i64 0, .slice none 0 0, .string ⟨#[]⟩, .bool false, .int .u64 0] 25)
  have Qd := Lib.hid (rdDone_any (w.alloc (.cells #[.int .i64 0, .slice none 0 0, .string ⟨#[]⟩, .bool false, .int .u64 0] 25)) b (hs1.k1 0) (hs1.k1 1))
  have k := hs1.k1
  unfold pathCells at k
  have Hs1 := Lib.hid hs1
  clear hs hs1 hsl
  go_enter Try.func83, Try.ntmps83
  go_wp2_with fail
  refine (Qd.out).mono ?_
  rintro e w1 ⟨rfl, rfl⟩
  go_upto_region 4 with (fail)
  clear k
  have hs := Hs1.out.made (.cells #[.int .i64 (pg).lev, (.slice a pg.sl.length cap), .string (pg).hi, .bool (pg).la, .int .u64 (pg).ri] 25)
  rw [World.size_alloc] at hs
  have hsl := (show St K _ (rowC (.slice a pg.sl.length cap) 132 2 pg.sl.length (slRow pg.sl) :: _) from hs.b3).row_slots (by omega)
  have Hn := Lib.hid hsl.news
  obtain ⟨sl, hsl2⟩ : ∃ sl, sl = slRow pg.sl := ⟨_, rfl⟩
  rw [← hsl2] at Hl H1 Hn
  have Hsl2 := Lib.hid hsl2
  have kp := hs.k0
  have Hs := Lib.hid (hs.row_nil (T := 132) (size := 2))
  clear hs hsl hsl2
  go_wp2_with (at_builtin; refine append_row_st _ _ 22 132 _ 0 pg.sl.length cap 2 24 [] sl (.agg #[.string ⟨#[]⟩, .int .u64 0]) iv a Hs.out rfl rfl Try.underlying22 Hi0.out Hi1.out Hi2.out Hi3.out rfl (by decide) rfl rfl Hl.out H0.out Hn.out H1.out (by omega) (by decide) ?_)
  intro v' w' hs
  obtain ⟨ao, capo, hv, _, _⟩ := hs.row_read
  subst hv
  have hs := hs.b1
  have kb := hs.k0
  have fb := hs.f0
  have hs := (hs.setL 1 (.slice ao pg.sl.length capo))
  simp only [List.set_cons_zero, List.set_cons_succ] at hs
  clear Hs Hl H0 H1 Hn
  have hs : St K _ (blk (w.heap.size + 1) (.cells #[.int .i64 (pg).lev, (.slice ao pg.sl.length capo), .string (pg).hi, .bool (pg).la, .int .u64 (pg).ri] 25) :: _) := hs
  go_upto_region 5 with (fail)
  clear kb fb kp
  have hs := hs.b2
  rw [Hsl2.out] at hs
  have Hs := Lib.hid hs
  clear hs
  refine region_effects [false, false, false, false, false, false, false, false, false, false, false, true, false] [11] (fun _ => [])
    (BwR K w.heap.size #[.int .i64 (pg).lev, (.slice ao pg.sl.length capo), .string (pg).hi, .bool (pg).la, .int .u64 (pg).ri] (blk (w.heap.size + 1) (.cells #[.int .i64 (pg).lev, (.slice ao pg.sl.length capo), .string (pg).hi, .bool (pg).la, .int .u64 (pg).ri] 25) :: rowC (.slice ao pg.sl.length capo) 132 2 pg.sl.length (slRow pg.sl) :: blk b (.cells (pathCells .nilFunc d id pg (.slice a pg.sl.length cap) (.func (.func 134) #[(.pointer (some ⟨b, 0, none⟩))] #[]) [.string key, .bool last, .string low]).toArray 206) :: slC (.slice a pg.sl.length cap) pg :: F))
    (fun W => ∃ cs, St K W (blk (w.heap.size + 1) (.cells #[.int .i64 (pg).lev, (.slice ao pg.sl.length capo), .string (pg).hi, .bool (pg).la, .int .u64 (pg).ri] 25) :: rowC (.slice ao pg.sl.length capo) 132 2 pg.sl.length (slRow pg.sl) :: blk b (.cells (pathCells .nilFunc d id pg (.slice a pg.sl.length cap) (.func (.func 134) #[(.pointer (some ⟨b, 0, none⟩))] #[]) [.string key, .bool last, .string low]).toArray 206) :: cs)) ?aS (by kernel_rfl) ?hB ?H ?haS ?h0 ?hI ?hR ?hE ?hQ
  case hB => as_aux_lemma => kernel_rfl
  case H =>
    rintro W2 ⟨cs, hs⟩
    have c1 := hs.k0
    have c2 := hs.k2
    unfold pathCells at c2
    clear hs
    simp only [withM]
    repeat (go_big_quiet_step (fail))
    refine wpQuiet_nil ?_
    rfl
  case haS => rfl
  case h0 => exact Hs.out
  case hI => exact fun ρ W2 h => ⟨_, St.tail h⟩
  case hR => exact fun ρ W2 W3 h hb => St.same h hb
  case hE =>
    refine ⟨?e11, trivial⟩
    case e11 =>
      intro o ho ρ W2 h hcl h11 hd2 af haf
      obtain rfl := Option.some.inj ho
      replace haf : af = fillD _ ρ [] _ := haf
      simp only [fillD] at haf
      subst haf
      unfold BwR at h
      rw [h11] at h
      have hs : St K W2 (blk w.heap.size (.cells #[.int .i64 0, .slice none 0 0, .string ⟨#[]⟩, .bool false, .int .u64 0] 25) :: blk (w.heap.size + 1) (.cells #[.int .i64 (pg).lev, (.slice ao pg.sl.length capo), .string (pg).hi, .bool (pg).la, .int .u64 (pg).ri] 25) :: rowC (.slice ao pg.sl.length capo) 132 2 pg.sl.length (slRow pg.sl) :: blk b (.cells (pathCells .nilFunc d id pg (.slice a pg.sl.length cap) (.func (.func 134) #[(.pointer (some ⟨b, 0, none⟩))] #[]) [.string key, .bool last, .string low]).toArray 206) :: slC (.slice a pg.sl.length cap) pg :: F) := h
      have k0 := hs.k0
      have f0 := hs.f0
      have hs := ((((hs.setL 0 (.int .i64 pg.lev)).setL 1 (.slice ao pg.sl.length capo)).setL 2 (.string pg.hi)).setL 3 (.bool pg.la)).setL 4 (.int .u64 pg.ri)
      have Hs3 := Lib.hid hs
      clear h hs hcl hd2
      go_wp2
      refine ⟨rfl, undef, rfl, ?_⟩
      unfold BwR
      rw [show upd ρ 11 undef 11 = some undef by simp [upd]]
      exact Hs3.out
  case hQ =>
    intro ρ W2 h hall
    obtain ⟨v11, h11⟩ := Option.isSome_iff_exists.1 (hall 11 (by simp))
    unfold BwR at h
    rw [h11] at h
    have hs : St K W2 (blk w.heap.size (.cells #[.int .i64 (pg).lev, (.slice ao pg.sl.length capo), .string (pg).hi, .bool (pg).la, .int .u64 (pg).ri] 25) :: blk (w.heap.size + 1) (.cells #[.int .i64 (pg).lev, (.slice ao pg.sl.length capo), .string (pg).hi, .bool (pg).la, .int .u64 (pg).ri] 25) :: rowC (.slice ao pg.sl.length capo) 132 2 pg.sl.length (slRow pg.sl) :: blk b (.cells (pathCells .nilFunc d id pg (.slice a pg.sl.length cap) (.func (.func 134) #[(.pointer (some ⟨b, 0, none⟩))] #[]) [.string key, .bool last, .string low]).toArray 206) :: slC (.slice a pg.sl.length cap) pg :: F) := h
    simp only [fillD, h11, Option.getD_some, dstAt, List.getElem?_cons_succ, List.getElem?_cons_zero, Option.bind_some, Option.bind_none, Act.put]
    clear h hall h11
    have q1 := hs.k0
    go_wp2
    refine bodyPost_ret (bwNode_res _ _ w.heap.size _ _ _ _ _ _ _ rfl rfl rfl q1) rfl ?_
    exact ⟨_, rfl, (hs.re [2, 0, 1, 3, 4] rfl).drop1.drop1⟩
/-- A step of Below of nothing. -/
theorem belowStep0_st (hs : St K w (blk b (.cells (pathCells (stV (some nilFV)) d 0 pg0 (.slice none 0 0) (.func (.func 134) #[(.pointer (some ⟨b, 0, none⟩))] #[]) [.string ⟨#[]⟩, .bool false, .string ⟨#[]⟩]).toArray 206) :: F)) :
    Calls Try.prog 82 #[(.pointer (some ⟨b, 0, none⟩)), (.pointer (some ⟨bm, 0, none⟩))] w fun e w' => e = .returned (.bool true) ∧ St K w' (bwL b .nilFunc B (.slice none 0 0) (.slice none 0 0) d ⟨#[]⟩ false ⟨⟨2, 0, pg0, rd0⟩, ⟨#[]⟩⟩ ++ F) := by
  have hc : w.cell? ⟨b, 0, none⟩ = some (stV (some nilFV)) := hs.k0 0
  have q := runStep_of (K := K) (α := Unit) (b := b) (m := bm) (f := nilFV) (o := fun _ => none) (nx := stV (some nilFV)) (tl := fun _ => (pathCells (stV (some nilFV)) d 0 pg0 (.slice none 0 0) (.func (.func 134) #[(.pointer (some ⟨b, 0, none⟩))] #[]) [.string ⟨#[]⟩, .bool false, .string ⟨#[]⟩]).tail) (T := 206) (F' := fun _ => F) nilEnters hc (by
    show Calls Try.prog 135 #[(.pointer (some ⟨bm, 0, none⟩))] w _
    go_enter Try.func135, Try.ntmps135
    go_wp2
    go_ret
    exact ⟨(), rfl, hs⟩)
  have Q := Lib.hid q
  clear q hs hc
  go_enter Try.func82, Try.ntmps82
  go_wp2_with fail
  refine (Q.out).mono ?_
  rintro e w1 ⟨x, rfl, hs⟩
  have Hs := Lib.hid hs
  clear hs
  go_wp2
  go_ret
  exact ⟨rfl, (Hs.out.row_nil (T := 132) (size := 2)).b1⟩
end
end Go.Proofs.Ytfgjanponijkhaa
