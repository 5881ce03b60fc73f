/- The reader of a node (package node): the copier's state functions, for any machine that begins with a position and a copier. The copier's head (package node). The copier's high, right and slot (package node). -/
import Derived.Test.YtfgjanponijkhaaMemSt
import Derived.Test.YtfgjanponijkhaaLatch
import Derived.Test.YtfgjanponijkhaaTail2
import Derived.Test.YtfgjanponijkhaaRun
import Derived.Deep.RegionWith
import Derived.Test.YtfgjanponijkhaaTailA
namespace Go.Proofs.Ytfgjanponijkhaa
open Go.RowKit
set_option maxRecDepth 100000

/-- A slot and a page as values. -/
structure Sl where
  k : ByteArray
  r : Int
structure Pg where
  lev : Int
  sl : List Sl
  hi : ByteArray
  la : Bool
  ri : Int
def slCells (s : Sl) : List Value := [.string s.k, .int .u64 s.r]
def slRow (l : List Sl) : List Value := l.flatMap slCells
theorem slRow_length (l : List Sl) : (slRow l).length = l.length * 2 := by
  induction l with
  | nil => rfl
  | cons s l ih => rw [show slRow (s :: l) = slCells s ++ slRow l from rfl, List.length_append, ih]; simp [slCells]; omega
/-- The cells of a reader: its position, its copier (the layout, the node, the page, what is left, what follows), the word. -/
def rdCells (nx : Value) (d : Cfg) (id : Int) (pg : Pg) (va : Value) (left : Nat) (th : Value) (word : Int) : List Value :=
  [nx, .bool true, .int .i64 d.th, .int .i64 d.sn, .int .i64 d.no, .int .i64 d.ch, .int .i64 d.re, .int .i64 d.fa, .int .u64 d.cl, .int .u64 id, .int .i64 pg.lev, va, .string pg.hi, .bool pg.la, .int .u64 pg.ri, .int .i64 left, th, .int .u64 word]

theorem infoSlot : (Try.prog.info? 132).map (fun i => (i.zero, i.size, i.bytes)) = some (some (.agg #[.string ⟨#[]⟩, .int .u64 0]), 2, 24) := by kernel_rfl
theorem field_cfg5 (v0 v1 v2 v3 v4 v5 v6 : Value) (w : World) : (Instr.field 27 (.agg #[v0, v1, v2, v3, v4, v5, v6]) 5).run Try.prog w = .ok v5 w := by kernel_rfl
attribute [go_sem] field_cfg5

section
variable {K : Know} {w : World} {F : List Comp} {b bm bc : Nat} {L : List Cel} {acc : Nat} {nx va : Value} {d : Cfg} {id : Int} {pg : Pg} {left : Nat} {th : Option FV} {word : Int} {T : TypeId}

/-- What follows the copy of a slot. -/
def moreV (b left : Nat) (th : Option FV) : Option FV := if left = 0 then th else some ⟨205, #[.pointer (some ⟨b, 2, none⟩)], #[]⟩
theorem more_st (hs : St K w (blk b (.cells (rdCells nx d id pg va left (stV th) word).toArray T) :: F)) :
    Calls Try.prog 204 #[.pointer (some ⟨b, 2, none⟩)] w fun e w' => e = .returned (stV (moreV b left th)) ∧ St K w' (blk b (.cells (rdCells nx d id pg va left (stV th) word).toArray T) :: F) := by
  have k := hs.k0
  unfold rdCells at k
  by_cases h : left = 0
  · have e : moreV b left th = th := by unfold moreV; rw [if_pos h]
    rw [e]
    have h' : ((left : Int) == 0) = true := by simp [h]
    clear h e
    cases th with
    | none =>
      go_enter Try.func204, Try.ntmps204
      go_wp2
      exact bodyPost_ret (v := stV none) (results_tmp (fn := Try.f204) (t := 2) rfl _ _ _) rfl ⟨rfl, hs⟩
    | some s =>
      obtain ⟨f, x, y⟩ := s
      have k : ∀ (k : Nat), w.cell? ⟨b, k, none⟩ = #[nx, .bool true, .int .i64 d.th, .int .i64 d.sn, .int .i64 d.no, .int .i64 d.ch, .int .i64 d.re, .int .i64 d.fa, .int .u64 d.cl, .int .u64 id, .int .i64 pg.lev, va, .string pg.hi, .bool pg.la, .int .u64 pg.ri, .int .i64 left, .func (.func f) x y, .int .u64 word][k]? := k
      go_enter Try.func204, Try.ntmps204
      go_wp2
      exact bodyPost_ret (v := .func (.func f) x y) (results_tmp (fn := Try.f204) (t := 2) rfl _ _ _) rfl ⟨rfl, hs⟩
  · have e : moreV b left th = some ⟨205, #[.pointer (some ⟨b, 2, none⟩)], #[]⟩ := by unfold moreV; rw [if_neg h]
    rw [e]
    have h' : (left == 0) = false := by simpa using h
    have h2 : ((left : Int) == 0) = false := by simp; omega
    clear h e
    go_enter Try.func204, Try.ntmps204
    go_wp2
    go_ret
    exact ⟨rfl, hs⟩

theorem begin_st {tv : Value} (hs : St K w (blk b (.cells (rdCells nx d id pg va left tv word).toArray T) :: F)) :
    Calls Try.prog 126 #[.pointer (some ⟨b, 2, none⟩), stV th] w fun e w' => e = .returned (.func (.func 164) #[.pointer (some ⟨b, 2, none⟩)] #[]) ∧ St K w' (blk b (.cells (rdCells nx d id pg va left (stV th) word).toArray T) :: F) := by
  have k := hs.k0
  have kf := hs.f0
  unfold rdCells at k
  cases th with
  | none =>
    have hs := hs.setL 16 .nilFunc
    simp only [rdCells, List.set_cons_zero, List.set_cons_succ] at hs
    have q : Calls Try.prog 126 #[.pointer (some ⟨b, 2, none⟩), .nilFunc] w fun e w' => e = .returned (.func (.func 164) #[.pointer (some ⟨b, 2, none⟩)] #[]) ∧ St K w' (blk b (.cells (rdCells nx d id pg va left .nilFunc word).toArray T) :: F) := by
      go_enter Try.func126, Try.ntmps126
      go_wp2
      go_ret
      exact ⟨rfl, hs⟩
    exact q
  | some s =>
    obtain ⟨f, x, y⟩ := s
    have hs := hs.setL 16 (.func (.func f) x y)
    simp only [rdCells, List.set_cons_zero, List.set_cons_succ] at hs
    have q : Calls Try.prog 126 #[.pointer (some ⟨b, 2, none⟩), .func (.func f) x y] w fun e w' => e = .returned (.func (.func 164) #[.pointer (some ⟨b, 2, none⟩)] #[]) ∧ St K w' (blk b (.cells (rdCells nx d id pg va left (.func (.func f) x y) word).toArray T) :: F) := by
      go_enter Try.func126, Try.ntmps126
      go_wp2
      go_ret
      exact ⟨rfl, hs⟩
    exact q

end
end Go.Proofs.Ytfgjanponijkhaa

namespace Go.Proofs.Ytfgjanponijkhaa
open Go.RowKit
set_option maxRecDepth 100000

section
variable {K : Know} {w : World} {F : List Comp} {b bm bc : Nat} {L : List Cel} {acc : Nat} {nx va : Value} {d : Cfg} {id : Int} {pg : Pg} {left : Nat} {th : Option FV} {word : Int} {T : TypeId}

/-- The number of slots that will be read. -/
def leftOf (d : Cfg) (c : Cel) : Nat := (min c.n d.fa).toNat

set_option maxHeartbeats 4000000 in
theorem head_st (hd : d.Ok) (hid : 0 ≤ id ∧ id < 18446744073709551616) (ha : acc ≤ 1000000000000) (hL : 0 ≤ (getC L (d.node id 1)).n ∧ (getC L (d.node id 1)).n < 18446744073709551616)
    (hs : St K w (blk b (.cells (rdCells nx d id pg va left (stV th) word).toArray T) :: memC bm bc L acc :: F)) :
    Calls Try.prog 164 #[.pointer (some ⟨b, 2, none⟩), .pointer (some ⟨bm, 0, none⟩)] w fun e w' => e = .returned (.func (.func 187) #[.pointer (some ⟨b, 2, none⟩)] #[]) ∧
      St K w' (blk b (.cells (rdCells nx d id (Pg.mk (wrap64 (getC L (d.node id 1)).m) [] ⟨#[]⟩ false 0) (.slice none 0 0) (leftOf d (getC L (d.node id 1))) (stV th) word).toArray T) :: memC bm bc L (acc + 1) :: F) := by
  obtain ⟨c, hc⟩ : ∃ c, c = getC L (d.node id 1) := ⟨_, rfl⟩
  have q0 := fun (w : World) (F : List Comp) (hs : St K w (memC bm bc L acc :: F)) => load_st (i := d.node id 1) hs ha
  rw [← hc] at q0 hL ⊢
  have Q0 := Lib.hid q0
  clear q0 hc
  have k := hs.k0
  unfold rdCells at k
  go_enter Try.func164, Try.ntmps164
  go_upto_region 1 with (fail)
  go_cut [5] (fun v wx => ∃ bx, v = .pointer (some ⟨bx, 0, none⟩) ∧ St K wx (blk bx (.cells #[.int .u64 c.n, .string c.k, .int .u64 c.m] 41) :: memC bm bc L (acc + 1) :: blk b (.cells (rdCells nx d id pg va left (stV th) word).toArray T) :: F))
  case first =>
    as_aux_lemma =>
    have Hs := Lib.hid hs
    clear k hs
    refine region_alloc 10 ?_ 5 (.cells #[.int .u64 0, .string ⟨#[]⟩, .int .u64 0] 41) rfl (by as_aux_lemma => kernel_rfl) rfl (fun _ _ => by kernel_rfl) ?_ ?_ ?_
    case refine_2 =>
      intro W hb
      have hs := Hs.out.same hb
      have k := hs.k0
      unfold rdCells at k
      simp only [List.take_succ_cons, List.take_zero, List.drop_succ_cons, List.drop_zero]
      repeat (go_big_quiet_step ((go_at_call 118; exact pure_of (head_any d hd id hid.1 hid.2 _))))
      refine wpQuiet_nil ?_
      rfl
    case refine_3 =>
      intro w5 hb5
      have hs := Hs.out.same hb5
      go_wp2_with fail
      refine (Q0.out _ _ hs.b1).mono ?_
      clear hs
      rintro e w6 ⟨rfl, hs⟩
      have hs := hs.made (.cells #[.int .u64 c.n, .string c.k, .int .u64 c.m] 41)
      go_wp2
      go_meet
      exact ⟨_, rfl, hs⟩
    case refine_4 =>
      intro w0 w5 hb0 hb5
      have hs := ((Hs.out.same hb0).made (.cells #[.int .u64 0, .string ⟨#[]⟩, .int .u64 0] 41)).same (by rw [World.size_alloc]; exact hb5)
      go_wp2_with fail
      refine (Q0.out _ _ hs.b2).mono ?_
      clear hs
      rintro e w6 ⟨rfl, hs⟩
      have kx := hs.k1
      have fx := hs.f1
      have hs := ((hs.b1.setL 0 (.int .u64 c.n)).setL 1 (.string c.k)).setL 2 (.int .u64 c.m)
      go_wp2
      go_meet
      exact ⟨_, rfl, hs⟩
  case rest =>
    clear k hs
    obtain ⟨bx, rfl, hs⟩ := hcut
    have kx := hs.k0
    have kb := hs.k2
    have fb := hs.f2
    unfold rdCells at kb
    have hs := ((((((hs.b2.setL 10 (.int .i64 (wrap64 c.m))).setL 11 (.slice none 0 0)).setL 12 (.string ⟨#[]⟩)).setL 13 (.bool false)).setL 14 (.int .u64 0)))
    simp only [rdCells, List.set_cons_zero, List.set_cons_succ] at hs
    go_upto_region 3 with (fail)
    refine wp_ck hs ?_
    clear kx kb fb hs
    intro W hs
    have kx := hs.k1
    have kb := hs.k0
    have fb := hs.f0
    have Q := Lib.hid (fun w' => config_any d w')
    have hf1 := hd.fa1
    have hf2 := hd.fa2
    refine region_tail 14 (by kernel_rfl) (by as_aux_lemma => kernel_rfl) ?_
    simp only [List.take_succ_cons, List.take_zero, List.drop_succ_cons, List.drop_zero]
    by_cases hm : c.n ≤ d.fa
    · have e : leftOf d c = c.n.toNat := by unfold leftOf; rw [Int.min_eq_left hm]
      have e2 : ((leftOf d c : Nat) : Int) = c.n := by rw [e]; omega
      repeat (go_big_quiet_step ((go_at_call 109; exact pure_of (Q.out _))))
      refine wpQuiet_nil ?_
      intro w5 hb5
      have hs := hs.same hb5
      have kb := hs.k0
      have fb := hs.f0
      have hs := hs.setL 15 (.int .i64 c.n)
      simp only [List.set_cons_zero, List.set_cons_succ] at hs
      have E2 := Lib.hid e2
      clear e e2
      go_wp2
      go_ret
      exact ⟨rfl, by unfold rdCells; rw [E2.out]; exact hs.b1.tail⟩
    · have hm2 : ¬ c.n ≤ d.fa := hm
      have e : leftOf d c = d.fa.toNat := by unfold leftOf; rw [Int.min_eq_right (by omega)]
      have e2 : ((leftOf d c : Nat) : Int) = d.fa := by rw [e]; omega
      repeat (go_big_quiet_step ((go_at_call 109; exact pure_of (Q.out _))))
      refine wpQuiet_nil ?_
      intro w5 hb5
      have hs := hs.same hb5
      have kb := hs.k0
      have fb := hs.f0
      have hs := hs.setL 15 (.int .i64 d.fa)
      simp only [List.set_cons_zero, List.set_cons_succ] at hs
      have E2 := Lib.hid e2
      clear e e2
      go_wp2
      go_ret
      exact ⟨rfl, by unfold rdCells; rw [E2.out]; exact hs.b1.tail⟩
end
end Go.Proofs.Ytfgjanponijkhaa

namespace Go.Proofs.Ytfgjanponijkhaa
open Go.RowKit
set_option maxRecDepth 100000

section
variable {K : Know} {w : World} {F : List Comp} {b bm bc : Nat} {L : List Cel} {acc : Nat} {nx va : Value} {d : Cfg} {id : Int} {pg : Pg} {left : Nat} {th : Option FV} {word : Int} {T : TypeId}

/-- What each step of the copy makes of the page. -/
def Pg.high (pg : Pg) (c : Cel) : Pg := ⟨pg.lev, pg.sl, c.k, decide (c.m = 1), pg.ri⟩
def Pg.right (pg : Pg) (c : Cel) : Pg := ⟨pg.lev, pg.sl, pg.hi, pg.la, c.n⟩
def Pg.push (pg : Pg) (c : Cel) : Pg := ⟨pg.lev, pg.sl ++ [⟨c.k, c.n⟩], pg.hi, pg.la, pg.ri⟩

set_option maxHeartbeats 4000000 in
theorem high_st (hd : d.Ok) (hid : 0 ≤ id ∧ id < 18446744073709551616) (ha : acc ≤ 1000000000000)
    (hs : St K w (blk b (.cells (rdCells nx d id pg va left (stV th) word).toArray T) :: memC bm bc L acc :: F)) :
    Calls Try.prog 187 #[.pointer (some ⟨b, 2, none⟩), .pointer (some ⟨bm, 0, none⟩)] w fun e w' => e = .returned (.func (.func 201) #[.pointer (some ⟨b, 2, none⟩)] #[]) ∧
      St K w' (blk b (.cells (rdCells nx d id (pg.high (getC L (d.node id 2))) va left (stV th) word).toArray T) :: memC bm bc L (acc + 1) :: F) := by
  obtain ⟨c, hc⟩ : ∃ c, c = getC L (d.node id 2) := ⟨_, rfl⟩
  have q0 := fun (w : World) (F : List Comp) (hs : St K w (memC bm bc L acc :: F)) => load_st (i := d.node id 2) hs ha
  rw [← hc] at q0 ⊢
  have Q0 := Lib.hid q0
  obtain ⟨o, ho⟩ : ∃ o, o = decide (c.m = 1) := ⟨_, rfl⟩
  have e : pg.high c = ⟨pg.lev, pg.sl, c.k, o, pg.ri⟩ := by unfold Pg.high; rw [ho]
  rw [e]
  have g : (c.m == 1) = o := by rw [ho]; rfl
  clear q0 hc ho e
  have k := hs.k0
  unfold rdCells at k
  go_enter Try.func187, Try.ntmps187
  go_upto_region 1 with (fail)
  go_cut [5] (fun v wx => ∃ bx, v = .pointer (some ⟨bx, 0, none⟩) ∧ St K wx (blk bx (.cells #[.int .u64 c.n, .string c.k, .int .u64 c.m] 41) :: memC bm bc L (acc + 1) :: blk b (.cells (rdCells nx d id pg va left (stV th) word).toArray T) :: F))
  case first =>
    as_aux_lemma =>
    have Hs := Lib.hid hs
    clear k hs
    refine region_alloc 10 ?_ 5 (.cells #[.int .u64 0, .string ⟨#[]⟩, .int .u64 0] 41) rfl (by as_aux_lemma => kernel_rfl) rfl (fun _ _ => by kernel_rfl) ?_ ?_ ?_
    case refine_2 =>
      intro W hb
      have hs := Hs.out.same hb
      have k := hs.k0
      unfold rdCells at k
      simp only [List.take_succ_cons, List.take_zero, List.drop_succ_cons, List.drop_zero]
      repeat (go_big_quiet_step ((go_at_call 119; exact pure_of (high_any d hd id hid.1 hid.2 _))))
      refine wpQuiet_nil ?_
      rfl
    case refine_3 =>
      intro w5 hb5
      have hs := Hs.out.same hb5
      go_wp2_with fail
      refine (Q0.out _ _ hs.b1).mono ?_
      clear hs
      rintro e w6 ⟨rfl, hs⟩
      have hs := hs.made (.cells #[.int .u64 c.n, .string c.k, .int .u64 c.m] 41)
      go_wp2
      go_meet
      exact ⟨_, rfl, hs⟩
    case refine_4 =>
      intro w0 w5 hb0 hb5
      have hs := ((Hs.out.same hb0).made (.cells #[.int .u64 0, .string ⟨#[]⟩, .int .u64 0] 41)).same (by rw [World.size_alloc]; exact hb5)
      go_wp2_with fail
      refine (Q0.out _ _ hs.b2).mono ?_
      clear hs
      rintro e w6 ⟨rfl, hs⟩
      have kx := hs.k1
      have fx := hs.f1
      have hs := ((hs.b1.setL 0 (.int .u64 c.n)).setL 1 (.string c.k)).setL 2 (.int .u64 c.m)
      go_wp2
      go_meet
      exact ⟨_, rfl, hs⟩
  case rest =>
    clear k hs
    obtain ⟨bx, rfl, hs⟩ := hcut
    have kx := hs.k0
    have hs := hs.b2
    have kb := hs.k0
    have fb := hs.f0
    unfold rdCells at kb
    have hs1 := ((hs.setL 12 (.string c.k)).setL 13 (.bool o)).drop1.b1
    have hs2 := ((hs.setL 13 (.bool o)).setL 12 (.string c.k)).drop1.b1
    simp only [rdCells, List.set_cons_zero, List.set_cons_succ] at hs1 hs2
    clear hs
    go_upto_region 2 with (fail)
    go_region
    all_goals
      go_wp2
      go_ret
      first | exact ⟨rfl, hs1.b1⟩ | exact ⟨rfl, hs2.b1⟩ | exact ⟨rfl, hs1.b1.drew⟩ | exact ⟨rfl, hs2.b1.drew⟩

set_option maxHeartbeats 1000000 in
theorem right_st (hd : d.Ok) (hid : 0 ≤ id ∧ id < 18446744073709551616) (ha : acc ≤ 1000000000000)
    (hs : St K w (blk b (.cells (rdCells nx d id pg va left (stV th) word).toArray T) :: memC bm bc L acc :: F)) :
    Calls Try.prog 201 #[.pointer (some ⟨b, 2, none⟩), .pointer (some ⟨bm, 0, none⟩)] w fun e w' => e = .returned (stV (moreV b left th)) ∧
      St K w' (blk b (.cells (rdCells nx d id (pg.right (getC L (d.node id 3))) va left (stV th) word).toArray T) :: memC bm bc L (acc + 1) :: F) := by
  obtain ⟨c, hc⟩ : ∃ c, c = getC L (d.node id 3) := ⟨_, rfl⟩
  have q0 := fun (w : World) (F : List Comp) (hs : St K w (memC bm bc L acc :: F)) => load_st (i := d.node id 3) hs ha
  rw [← hc] at q0 ⊢
  have Q0 := Lib.hid q0
  clear q0 hc
  have k := hs.k0
  unfold rdCells at k
  have qm := fun w F (hs : St K w (blk b (.cells (rdCells nx d id (pg.right c) va left (stV th) word).toArray T) :: F)) => more_st hs
  cases ho : moreV b left th with
  | none =>
    rw [ho] at qm
    have Qm := Lib.hid qm
    clear qm ho
    go_enter Try.func201, Try.ntmps201
    go_upto_region 1 with (fail)
    refine region_tail_move _ 10 rfl rfl (by kernel_rfl) (by as_aux_lemma => kernel_rfl) (fun _ _ _ _ h => h) ?_
    simp only [List.take_succ_cons, List.take_zero, List.drop_succ_cons, List.drop_zero, Act.put, List.setIfInBounds_toArray, List.set_cons_zero, List.set_cons_succ, Act.eval]
    repeat (go_big_quiet_step ((go_at_call 120; exact pure_of (right_any d hd id hid.1 hid.2 _))))
    refine wpQuiet_nil ?_
    intro w5 hb5
    have hs := hs.same hb5
    clear k hb5
    go_wp2_with fail
    refine (Q0.out _ _ hs.b1).mono ?_
    clear hs
    rintro e w6 ⟨rfl, hs⟩
    have hs := hs.b1
    have k := hs.k0
    have kf := hs.f0
    unfold rdCells at k
    have hs := hs.setL 14 (.int .u64 c.n)
    simp only [rdCells, List.set_cons_zero, List.set_cons_succ] at hs
    go_wp2_with fail
    refine (Qm.out _ _ hs).mono ?_
    clear hs k kf
    rintro e w7 ⟨he, hs⟩
    obtain rfl : e = .returned .nilFunc := he
    go_wp2
    go_ret
    exact ⟨rfl, hs⟩
  | some o =>
    obtain ⟨f', x', y'⟩ := o
    rw [ho] at qm
    have Qm := Lib.hid qm
    clear qm ho
    go_enter Try.func201, Try.ntmps201
    go_upto_region 1 with (fail)
    refine region_tail_move _ 10 rfl rfl (by kernel_rfl) (by as_aux_lemma => kernel_rfl) (fun _ _ _ _ h => h) ?_
    simp only [List.take_succ_cons, List.take_zero, List.drop_succ_cons, List.drop_zero, Act.put, List.setIfInBounds_toArray, List.set_cons_zero, List.set_cons_succ, Act.eval]
    repeat (go_big_quiet_step ((go_at_call 120; exact pure_of (right_any d hd id hid.1 hid.2 _))))
    refine wpQuiet_nil ?_
    intro w5 hb5
    have hs := hs.same hb5
    clear k hb5
    go_wp2_with fail
    refine (Q0.out _ _ hs.b1).mono ?_
    clear hs
    rintro e w6 ⟨rfl, hs⟩
    have hs := hs.b1
    have k := hs.k0
    have kf := hs.f0
    unfold rdCells at k
    have hs := hs.setL 14 (.int .u64 c.n)
    simp only [rdCells, List.set_cons_zero, List.set_cons_succ] at hs
    go_wp2_with fail
    refine (Qm.out _ _ hs).mono ?_
    clear hs k kf
    rintro e w7 ⟨he, hs⟩
    obtain rfl : e = .returned (.func (.func f') x' y') := he
    go_wp2
    go_ret
    exact ⟨rfl, hs⟩
end
end Go.Proofs.Ytfgjanponijkhaa
