/- The copier's high, right and slot (package node). -/
import Derived.Test.YtfgjanponijkhaaNode1
import Derived.Test.YtfgjanponijkhaaTail4
namespace Go.Proofs.Ytfgjanponijkhaa
open Go.RowKit
set_option maxRecDepth 100000

section
variable {K : Know} {w : World} {F : List Comp} {b bm bc : Nat} {L : List Cel} {acc : Nat} {nx va : Value} {d : Cfg} {id : Int} {pg : Pg} {left : Nat} {th : Option FV} {word : Int} {T : TypeId}

/-- What each step of the copy makes of the page. -/
def Pg.high (pg : Pg) (c : Cel) : Pg := ⟨pg.lev, pg.sl, c.k, decide (c.m = 1), pg.ri⟩
def Pg.right (pg : Pg) (c : Cel) : Pg := ⟨pg.lev, pg.sl, pg.hi, pg.la, c.n⟩
def Pg.push (pg : Pg) (c : Cel) : Pg := ⟨pg.lev, pg.sl ++ [⟨c.k, c.n⟩], pg.hi, pg.la, pg.ri⟩

set_option maxHeartbeats 4000000 in
theorem high_st (hd : d.Ok) (hid : 0 ≤ id ∧ id < 18446744073709551616) (ha : acc ≤ 1000000000000)
    (hs : St K w (blk b (.cells (rdCells nx d id pg va left (stV th) word).toArray T) :: memC bm bc L acc :: F)) :
    Calls Try.prog 187 #[.pointer (some ⟨b, 2, none⟩), .pointer (some ⟨bm, 0, none⟩)] w fun e w' => e = .returned (.func (.func 201) #[.pointer (some ⟨b, 2, none⟩)] #[]) ∧
      St K w' (blk b (.cells (rdCells nx d id (pg.high (getC L (d.node id 2))) va left (stV th) word).toArray T) :: memC bm bc L (acc + 1) :: F) := by
  obtain ⟨c, hc⟩ : ∃ c, c = getC L (d.node id 2) := ⟨_, rfl⟩
  have q0 := fun (w : World) (F : List Comp) (hs : St K w (memC bm bc L acc :: F)) => load_st (i := d.node id 2) hs ha
  rw [← hc] at q0 ⊢
  have Q0 := Lib.hid q0
  obtain ⟨o, ho⟩ : ∃ o, o = decide (c.m = 1) := ⟨_, rfl⟩
  have e : pg.high c = ⟨pg.lev, pg.sl, c.k, o, pg.ri⟩ := by unfold Pg.high; rw [ho]
  rw [e]
  have g : (c.m == 1) = o := by rw [ho]; rfl
  clear q0 hc ho e
  have k := hs.k0
  unfold rdCells at k
  go_enter Try.func187, Try.ntmps187
  go_upto_region 1 with (fail)
  go_cut [5] (fun v wx => ∃ bx, v = .pointer (some ⟨bx, 0, none⟩) ∧ St K wx (blk bx (.cells #[.int .u64 c.n, .string c.k, .int .u64 c.m] 41) :: memC bm bc L (acc + 1) :: blk b (.cells (rdCells nx d id pg va left (stV th) word).toArray T) :: F))
  case first =>
    as_aux_lemma =>
    have Hs := Lib.hid hs
    clear k hs
    refine region_alloc 10 ?_ 5 (.cells #[.int .u64 0, .string ⟨#[]⟩, .int .u64 0] 41) rfl (by as_aux_lemma => kernel_rfl) rfl (fun _ _ => by kernel_rfl) ?_ ?_ ?_
    case refine_2 =>
      intro W hb
      have hs := Hs.out.same hb
      have k := hs.k0
      unfold rdCells at k
      simp only [List.take_succ_cons, List.take_zero, List.drop_succ_cons, List.drop_zero]
      repeat (go_big_quiet_step ((go_at_call 119; exact pure_of (high_any d hd id hid.1 hid.2 _))))
      refine wpQuiet_nil ?_
      rfl
    case refine_3 =>
      intro w5 hb5
      have hs := Hs.out.same hb5
      go_wp2_with fail
      refine (Q0.out _ _ hs.b1).mono ?_
      clear hs
      rintro e w6 ⟨rfl, hs⟩
      have hs := hs.made (.cells #[.int .u64 c.n, .string c.k, .int .u64 c.m] 41)
      go_wp2
      go_meet
      exact ⟨_, rfl, hs⟩
    case refine_4 =>
      intro w0 w5 hb0 hb5
      have hs := ((Hs.out.same hb0).made (.cells #[.int .u64 0, .string ⟨#[]⟩, .int .u64 0] 41)).same (by rw [World.size_alloc]; exact hb5)
      go_wp2_with fail
      refine (Q0.out _ _ hs.b2).mono ?_
      clear hs
      rintro e w6 ⟨rfl, hs⟩
      have kx := hs.k1
      have fx := hs.f1
      have hs := ((hs.b1.setL 0 (.int .u64 c.n)).setL 1 (.string c.k)).setL 2 (.int .u64 c.m)
      go_wp2
      go_meet
      exact ⟨_, rfl, hs⟩
  case rest =>
    clear k hs
    obtain ⟨bx, rfl, hs⟩ := hcut
    have kx := hs.k0
    have hs := hs.b2
    have kb := hs.k0
    have fb := hs.f0
    unfold rdCells at kb
    have hs1 := ((hs.setL 12 (.string c.k)).setL 13 (.bool o)).drop1.b1
    have hs2 := ((hs.setL 13 (.bool o)).setL 12 (.string c.k)).drop1.b1
    simp only [rdCells, List.set_cons_zero, List.set_cons_succ] at hs1 hs2
    clear hs
    go_upto_region 2 with (fail)
    go_region
    all_goals
      go_wp2
      go_ret
      first | exact ⟨rfl, hs1.b1⟩ | exact ⟨rfl, hs2.b1⟩ | exact ⟨rfl, hs1.b1.drew⟩ | exact ⟨rfl, hs2.b1.drew⟩

set_option maxHeartbeats 1000000 in
theorem right_st (hd : d.Ok) (hid : 0 ≤ id ∧ id < 18446744073709551616) (ha : acc ≤ 1000000000000)
    (hs : St K w (blk b (.cells (rdCells nx d id pg va left (stV th) word).toArray T) :: memC bm bc L acc :: F)) :
    Calls Try.prog 201 #[.pointer (some ⟨b, 2, none⟩), .pointer (some ⟨bm, 0, none⟩)] w fun e w' => e = .returned (stV (moreV b left th)) ∧
      St K w' (blk b (.cells (rdCells nx d id (pg.right (getC L (d.node id 3))) va left (stV th) word).toArray T) :: memC bm bc L (acc + 1) :: F) := by
  obtain ⟨c, hc⟩ : ∃ c, c = getC L (d.node id 3) := ⟨_, rfl⟩
  have q0 := fun (w : World) (F : List Comp) (hs : St K w (memC bm bc L acc :: F)) => load_st (i := d.node id 3) hs ha
  rw [← hc] at q0 ⊢
  have Q0 := Lib.hid q0
  clear q0 hc
  have k := hs.k0
  unfold rdCells at k
  have qm := fun w F (hs : St K w (blk b (.cells (rdCells nx d id (pg.right c) va left (stV th) word).toArray T) :: F)) => more_st hs
  cases ho : moreV b left th with
  | none =>
    rw [ho] at qm
    have Qm := Lib.hid qm
    clear qm ho
    go_enter Try.func201, Try.ntmps201
    go_upto_region 1 with (fail)
    refine region_tail_move _ 10 rfl rfl (by kernel_rfl) (by as_aux_lemma => kernel_rfl) (fun _ _ _ _ h => h) ?_
    simp only [List.take_succ_cons, List.take_zero, List.drop_succ_cons, List.drop_zero, Act.put, List.setIfInBounds_toArray, List.set_cons_zero, List.set_cons_succ, Act.eval]
    repeat (go_big_quiet_step ((go_at_call 120; exact pure_of (right_any d hd id hid.1 hid.2 _))))
    refine wpQuiet_nil ?_
    intro w5 hb5
    have hs := hs.same hb5
    clear k hb5
    go_wp2_with fail
    refine (Q0.out _ _ hs.b1).mono ?_
    clear hs
    rintro e w6 ⟨rfl, hs⟩
    have hs := hs.b1
    have k := hs.k0
    have kf := hs.f0
    unfold rdCells at k
    have hs := hs.setL 14 (.int .u64 c.n)
    simp only [rdCells, List.set_cons_zero, List.set_cons_succ] at hs
    go_wp2_with fail
    refine (Qm.out _ _ hs).mono ?_
    clear hs k kf
    rintro e w7 ⟨he, hs⟩
    obtain rfl : e = .returned .nilFunc := he
    go_wp2
    go_ret
    exact ⟨rfl, hs⟩
  | some o =>
    obtain ⟨f', x', y'⟩ := o
    rw [ho] at qm
    have Qm := Lib.hid qm
    clear qm ho
    go_enter Try.func201, Try.ntmps201
    go_upto_region 1 with (fail)
    refine region_tail_move _ 10 rfl rfl (by kernel_rfl) (by as_aux_lemma => kernel_rfl) (fun _ _ _ _ h => h) ?_
    simp only [List.take_succ_cons, List.take_zero, List.drop_succ_cons, List.drop_zero, Act.put, List.setIfInBounds_toArray, List.set_cons_zero, List.set_cons_succ, Act.eval]
    repeat (go_big_quiet_step ((go_at_call 120; exact pure_of (right_any d hd id hid.1 hid.2 _))))
    refine wpQuiet_nil ?_
    intro w5 hb5
    have hs := hs.same hb5
    clear k hb5
    go_wp2_with fail
    refine (Q0.out _ _ hs.b1).mono ?_
    clear hs
    rintro e w6 ⟨rfl, hs⟩
    have hs := hs.b1
    have k := hs.k0
    have kf := hs.f0
    unfold rdCells at k
    have hs := hs.setL 14 (.int .u64 c.n)
    simp only [rdCells, List.set_cons_zero, List.set_cons_succ] at hs
    go_wp2_with fail
    refine (Qm.out _ _ hs).mono ?_
    clear hs k kf
    rintro e w7 ⟨he, hs⟩
    obtain rfl : e = .returned (.func (.func f') x' y') := he
    go_wp2
    go_ret
    exact ⟨rfl, hs⟩
end
end Go.Proofs.Ytfgjanponijkhaa
