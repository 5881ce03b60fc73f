
/- The reader of a node (package node): the copier's state functions, for any machine that begins with a position and a copier. The copier's head (package node). The copier's high, right and slot (package node). The copier's slot (package node). The reader of a node (package node): open and validate. Chains of versions as lists, and the machines of package chain as functions of the cells. The reader of a node as a machine: its state as a function of the cells. Pages as values: slices of slots that are only read; clone; Page and NewRead (package node). The reference's Same of pages (layer 7). -/
import Derived.Test.YtlpdhhhgckpcfaaGreatBaseA
import Derived.Test.YtlpdhhhgckpcfaaGreatTailC
import Derived.Deep.RegionWith
namespace Go.Proofs.YtlpdhhhgckpcfaaGreat
open Go.RowKit
set_option maxRecDepth 100000

/-- A slot and a page as values. -/
structure Sl where
  k : ByteArray
  r : Int
structure Pg where
  lev : Int
  sl : List Sl
  hi : ByteArray
  la : Bool
  ri : Int
def slCells (s : Sl) : List Value := [.string s.k, .int .u64 s.r]
def slRow (l : List Sl) : List Value := l.flatMap slCells
theorem slRow_length (l : List Sl) : (slRow l).length = l.length * 2 := by
  induction l with
  | nil => rfl
  | cons s l ih => rw [show slRow (s :: l) = slCells s ++ slRow l from rfl, List.length_append, ih]; simp [slCells]; omega
/-- The cells of a reader: its position, its copier (the layout, the node, the page, what is left, what follows), the word. -/
def rdCells (nx : Value) (d : Cfg) (id : Int) (pg : Pg) (va : Value) (left : Nat) (th : Value) (word : Int) : List Value :=
  [nx, .bool true, .int .i64 d.th, .int .i64 d.sn, .int .i64 d.no, .int .i64 d.ch, .int .i64 d.re, .int .i64 d.fa, .int .u64 d.cl, .int .u64 id, .int .i64 pg.lev, va, .string pg.hi, .bool pg.la, .int .u64 pg.ri, .int .i64 left, th, .int .u64 word]

theorem infoSlot : (Tryz.prog.info? 69).map (fun i => (i.zero, i.size, i.bytes)) = some (some (.agg #[.string ⟨#[]⟩, .int .u64 0]), 2, 24) := by kernel_rfl
theorem field_cfg5 (v0 v1 v2 v3 v4 v5 v6 : Value) (w : World) : (Instr.field 26 (.agg #[v0, v1, v2, v3, v4, v5, v6]) 5).run Tryz.prog w = .ok v5 w := by kernel_rfl
attribute [go_sem] field_cfg5

section
variable {K : Know} {w : World} {F : List Comp} {b bm bc : Nat} {L : List Cel} {acc : Nat} {nx va : Value} {d : Cfg} {id : Int} {pg : Pg} {left : Nat} {th : Option FV} {word : Int} {T : TypeId}

/-- What follows the copy of a slot. -/
def moreV (b left : Nat) (th : Option FV) : Option FV := if left = 0 then th else some ⟨195, #[.pointer (some ⟨b, 2, none⟩)], #[]⟩
theorem more_st (hs : St K w (blk b (.cells (rdCells nx d id pg va left (stV th) word).toArray T) :: F)) :
    Calls Tryz.prog 194 #[.pointer (some ⟨b, 2, none⟩)] w fun e w' => e = .returned (stV (moreV b left th)) ∧ St K w' (blk b (.cells (rdCells nx d id pg va left (stV th) word).toArray T) :: F) := by
  have k := hs.k0
  unfold rdCells at k
  by_cases h : left = 0
  · have e : moreV b left th = th := by unfold moreV; rw [if_pos h]
    rw [e]
    have h' : ((left : Int) == 0) = true := by simp [h]
    clear h e
    cases th with
    | none =>
      go_enter Tryz.func194, Tryz.ntmps194
      go_wp2
      exact bodyPost_ret (v := stV none) (results_tmp (fn := Tryz.f194) (t := 2) rfl _ _ _) rfl ⟨rfl, hs⟩
    | some s =>
      obtain ⟨f, x, y⟩ := s
      have k : ∀ (k : Nat), w.cell? ⟨b, k, none⟩ = #[nx, .bool true, .int .i64 d.th, .int .i64 d.sn, .int .i64 d.no, .int .i64 d.ch, .int .i64 d.re, .int .i64 d.fa, .int .u64 d.cl, .int .u64 id, .int .i64 pg.lev, va, .string pg.hi, .bool pg.la, .int .u64 pg.ri, .int .i64 left, .func (.func f) x y, .int .u64 word][k]? := k
      go_enter Tryz.func194, Tryz.ntmps194
      go_wp2
      exact bodyPost_ret (v := .func (.func f) x y) (results_tmp (fn := Tryz.f194) (t := 2) rfl _ _ _) rfl ⟨rfl, hs⟩
  · have e : moreV b left th = some ⟨195, #[.pointer (some ⟨b, 2, none⟩)], #[]⟩ := by unfold moreV; rw [if_neg h]
    rw [e]
    have h' : (left == 0) = false := by simpa using h
    have h2 : ((left : Int) == 0) = false := by simp; omega
    clear h e
    go_enter Tryz.func194, Tryz.ntmps194
    go_wp2
    go_ret
    exact ⟨rfl, hs⟩

theorem begin_st {tv : Value} (hs : St K w (blk b (.cells (rdCells nx d id pg va left tv word).toArray T) :: F)) :
    Calls Tryz.prog 153 #[.pointer (some ⟨b, 2, none⟩), stV th] w fun e w' => e = .returned (.func (.func 181) #[.pointer (some ⟨b, 2, none⟩)] #[]) ∧ St K w' (blk b (.cells (rdCells nx d id pg va left (stV th) word).toArray T) :: F) := by
  have k := hs.k0
  have kf := hs.f0
  unfold rdCells at k
  cases th with
  | none =>
    have hs := hs.setL 16 .nilFunc
    simp only [rdCells, List.set_cons_zero, List.set_cons_succ] at hs
    have q : Calls Tryz.prog 153 #[.pointer (some ⟨b, 2, none⟩), .nilFunc] w fun e w' => e = .returned (.func (.func 181) #[.pointer (some ⟨b, 2, none⟩)] #[]) ∧ St K w' (blk b (.cells (rdCells nx d id pg va left .nilFunc word).toArray T) :: F) := by
      go_enter Tryz.func153, Tryz.ntmps153
      go_wp2
      go_ret
      exact ⟨rfl, hs⟩
    exact q
  | some s =>
    obtain ⟨f, x, y⟩ := s
    have hs := hs.setL 16 (.func (.func f) x y)
    simp only [rdCells, List.set_cons_zero, List.set_cons_succ] at hs
    have q : Calls Tryz.prog 153 #[.pointer (some ⟨b, 2, none⟩), .func (.func f) x y] w fun e w' => e = .returned (.func (.func 181) #[.pointer (some ⟨b, 2, none⟩)] #[]) ∧ St K w' (blk b (.cells (rdCells nx d id pg va left (.func (.func f) x y) word).toArray T) :: F) := by
      go_enter Tryz.func153, Tryz.ntmps153
      go_wp2
      go_ret
      exact ⟨rfl, hs⟩
    exact q

end
end Go.Proofs.YtlpdhhhgckpcfaaGreat

namespace Go.Proofs.YtlpdhhhgckpcfaaGreat
open Go.RowKit
set_option maxRecDepth 100000

section
variable {K : Know} {w : World} {F : List Comp} {b bm bc : Nat} {L : List Cel} {acc : Nat} {nx va : Value} {d : Cfg} {id : Int} {pg : Pg} {left : Nat} {th : Option FV} {word : Int} {T : TypeId}

/-- The number of slots that will be read. -/
def leftOf (d : Cfg) (c : Cel) : Nat := (min c.n d.fa).toNat

set_option maxHeartbeats 4000000 in
theorem head_st (hd : d.Ok) (hid : 0 ≤ id ∧ id < 18446744073709551616) (ha : acc ≤ 1000000000000) (hL : 0 ≤ (getC L (d.node id 1)).n ∧ (getC L (d.node id 1)).n < 18446744073709551616)
    (hs : St K w (blk b (.cells (rdCells nx d id pg va left (stV th) word).toArray T) :: memC bm bc L acc :: F)) :
    Calls Tryz.prog 181 #[.pointer (some ⟨b, 2, none⟩), .pointer (some ⟨bm, 0, none⟩)] w fun e w' => e = .returned (.func (.func 189) #[.pointer (some ⟨b, 2, none⟩)] #[]) ∧
      St K w' (blk b (.cells (rdCells nx d id (Pg.mk (wrap64 (getC L (d.node id 1)).m) [] ⟨#[]⟩ false 0) (.slice none 0 0) (leftOf d (getC L (d.node id 1))) (stV th) word).toArray T) :: memC bm bc L (acc + 1) :: F) := by
  obtain ⟨c, hc⟩ : ∃ c, c = getC L (d.node id 1) := ⟨_, rfl⟩
  have q0 := fun (w : World) (F : List Comp) (hs : St K w (memC bm bc L acc :: F)) => load_st (i := d.node id 1) hs ha
  rw [← hc] at q0 hL ⊢
  have Q0 := Lib.hid q0
  clear q0 hc
  have k := hs.k0
  unfold rdCells at k
  go_enter Tryz.func181, Tryz.ntmps181
  go_upto_region 1 with (fail)
  go_cut [5] (fun v wx => ∃ bx, v = .pointer (some ⟨bx, 0, none⟩) ∧ St K wx (blk bx (.cells #[.int .u64 c.n, .string c.k, .int .u64 c.m] 63) :: memC bm bc L (acc + 1) :: blk b (.cells (rdCells nx d id pg va left (stV th) word).toArray T) :: F))
  case first =>
    as_aux_lemma =>
    have Hs := Lib.hid hs
    clear k hs
    refine region_alloc 10 ?_ 5 (.cells #[.int .u64 0, .string ⟨#[]⟩, .int .u64 0] 63) rfl (by as_aux_lemma => kernel_rfl) rfl (fun _ _ => by kernel_rfl) ?_ ?_ ?_
    case refine_2 =>
      intro W hb
      have hs := Hs.out.same hb
      have k := hs.k0
      unfold rdCells at k
      simp only [List.take_succ_cons, List.take_zero, List.drop_succ_cons, List.drop_zero]
      repeat (go_big_quiet_step ((go_at_call 129; exact pure_of (head_any d hd id hid.1 hid.2 _))))
      refine wpQuiet_nil ?_
      rfl
    case refine_3 =>
      intro w5 hb5
      have hs := Hs.out.same hb5
      go_wp2_with fail
      refine (Q0.out _ _ hs.b1).mono ?_
      clear hs
      rintro e w6 ⟨rfl, hs⟩
      have hs := hs.made (.cells #[.int .u64 c.n, .string c.k, .int .u64 c.m] 63)
      go_wp2
      go_meet
      exact ⟨_, rfl, hs⟩
    case refine_4 =>
      intro w0 w5 hb0 hb5
      have hs := ((Hs.out.same hb0).made (.cells #[.int .u64 0, .string ⟨#[]⟩, .int .u64 0] 63)).same (by rw [World.size_alloc]; exact hb5)
      go_wp2_with fail
      refine (Q0.out _ _ hs.b2).mono ?_
      clear hs
      rintro e w6 ⟨rfl, hs⟩
      have kx := hs.k1
      have fx := hs.f1
      have hs := ((hs.b1.setL 0 (.int .u64 c.n)).setL 1 (.string c.k)).setL 2 (.int .u64 c.m)
      go_wp2
      go_meet
      exact ⟨_, rfl, hs⟩
  case rest =>
    clear k hs
    obtain ⟨bx, rfl, hs⟩ := hcut
    have kx := hs.k0
    have kb := hs.k2
    have fb := hs.f2
    unfold rdCells at kb
    have hs := ((((((hs.b2.setL 10 (.int .i64 (wrap64 c.m))).setL 11 (.slice none 0 0)).setL 12 (.string ⟨#[]⟩)).setL 13 (.bool false)).setL 14 (.int .u64 0)))
    simp only [rdCells, List.set_cons_zero, List.set_cons_succ] at hs
    go_upto_region 3 with (fail)
    refine wp_ck hs ?_
    clear kx kb fb hs
    intro W hs
    have kx := hs.k1
    have kb := hs.k0
    have fb := hs.f0
    have Q := Lib.hid (fun w' => config_any d w')
    have hf1 := hd.fa1
    have hf2 := hd.fa2
    refine region_tail 14 (by kernel_rfl) (by as_aux_lemma => kernel_rfl) ?_
    simp only [List.take_succ_cons, List.take_zero, List.drop_succ_cons, List.drop_zero]
    by_cases hm : c.n ≤ d.fa
    · have e : leftOf d c = c.n.toNat := by unfold leftOf; rw [Int.min_eq_left hm]
      have e2 : ((leftOf d c : Nat) : Int) = c.n := by rw [e]; omega
      repeat (go_big_quiet_step ((go_at_call 96; exact pure_of (Q.out _))))
      refine wpQuiet_nil ?_
      intro w5 hb5
      have hs := hs.same hb5
      have kb := hs.k0
      have fb := hs.f0
      have hs := hs.setL 15 (.int .i64 c.n)
      simp only [List.set_cons_zero, List.set_cons_succ] at hs
      have E2 := Lib.hid e2
      clear e e2
      go_wp2
      go_ret
      exact ⟨rfl, by unfold rdCells; rw [E2.out]; exact hs.b1.tail⟩
    · have hm2 : ¬ c.n ≤ d.fa := hm
      have e : leftOf d c = d.fa.toNat := by unfold leftOf; rw [Int.min_eq_right (by omega)]
      have e2 : ((leftOf d c : Nat) : Int) = d.fa := by rw [e]; omega
      repeat (go_big_quiet_step ((go_at_call 96; exact pure_of (Q.out _))))
      refine wpQuiet_nil ?_
      intro w5 hb5
      have hs := hs.same hb5
      have kb := hs.k0
      have fb := hs.f0
      have hs := hs.setL 15 (.int .i64 d.fa)
      simp only [List.set_cons_zero, List.set_cons_succ] at hs
      have E2 := Lib.hid e2
      clear e e2
      go_wp2
      go_ret
      exact ⟨rfl, by unfold rdCells; rw [E2.out]; exact hs.b1.tail⟩
end
end Go.Proofs.YtlpdhhhgckpcfaaGreat

namespace Go.Proofs.YtlpdhhhgckpcfaaGreat
open Go.RowKit
set_option maxRecDepth 100000

section
variable {K : Know} {w : World} {F : List Comp} {b bm bc : Nat} {L : List Cel} {acc : Nat} {nx va : Value} {d : Cfg} {id : Int} {pg : Pg} {left : Nat} {th : Option FV} {word : Int} {T : TypeId}

/-- What each step of the copy makes of the page. -/
def Pg.high (pg : Pg) (c : Cel) : Pg := ⟨pg.lev, pg.sl, c.k, decide (c.m = 1), pg.ri⟩
def Pg.right (pg : Pg) (c : Cel) : Pg := ⟨pg.lev, pg.sl, pg.hi, pg.la, c.n⟩
def Pg.push (pg : Pg) (c : Cel) : Pg := ⟨pg.lev, pg.sl ++ [⟨c.k, c.n⟩], pg.hi, pg.la, pg.ri⟩

set_option maxHeartbeats 4000000 in
theorem high_st (hd : d.Ok) (hid : 0 ≤ id ∧ id < 18446744073709551616) (ha : acc ≤ 1000000000000)
    (hs : St K w (blk b (.cells (rdCells nx d id pg va left (stV th) word).toArray T) :: memC bm bc L acc :: F)) :
    Calls Tryz.prog 189 #[.pointer (some ⟨b, 2, none⟩), .pointer (some ⟨bm, 0, none⟩)] w fun e w' => e = .returned (.func (.func 192) #[.pointer (some ⟨b, 2, none⟩)] #[]) ∧
      St K w' (blk b (.cells (rdCells nx d id (pg.high (getC L (d.node id 2))) va left (stV th) word).toArray T) :: memC bm bc L (acc + 1) :: F) := by
  obtain ⟨c, hc⟩ : ∃ c, c = getC L (d.node id 2) := ⟨_, rfl⟩
  have q0 := fun (w : World) (F : List Comp) (hs : St K w (memC bm bc L acc :: F)) => load_st (i := d.node id 2) hs ha
  rw [← hc] at q0 ⊢
  have Q0 := Lib.hid q0
  obtain ⟨o, ho⟩ : ∃ o, o = decide (c.m = 1) := ⟨_, rfl⟩
  have e : pg.high c = ⟨pg.lev, pg.sl, c.k, o, pg.ri⟩ := by unfold Pg.high; rw [ho]
  rw [e]
  have g : (c.m == 1) = o := by rw [ho]; rfl
  clear q0 hc ho e
  have k := hs.k0
  unfold rdCells at k
  go_enter Tryz.func189, Tryz.ntmps189
  go_upto_region 1 with (fail)
  go_cut [5] (fun v wx => ∃ bx, v = .pointer (some ⟨bx, 0, none⟩) ∧ St K wx (blk bx (.cells #[.int .u64 c.n, .string c.k, .int .u64 c.m] 63) :: memC bm bc L (acc + 1) :: blk b (.cells (rdCells nx d id pg va left (stV th) word).toArray T) :: F))
  case first =>
    as_aux_lemma =>
    have Hs := Lib.hid hs
    clear k hs
    refine region_alloc 10 ?_ 5 (.cells #[.int .u64 0, .string ⟨#[]⟩, .int .u64 0] 63) rfl (by as_aux_lemma => kernel_rfl) rfl (fun _ _ => by kernel_rfl) ?_ ?_ ?_
    case refine_2 =>
      intro W hb
      have hs := Hs.out.same hb
      have k := hs.k0
      unfold rdCells at k
      simp only [List.take_succ_cons, List.take_zero, List.drop_succ_cons, List.drop_zero]
      repeat (go_big_quiet_step ((go_at_call 112; exact pure_of (high_any d hd id hid.1 hid.2 _))))
      refine wpQuiet_nil ?_
      rfl
    case refine_3 =>
      intro w5 hb5
      have hs := Hs.out.same hb5
      go_wp2_with fail
      refine (Q0.out _ _ hs.b1).mono ?_
      clear hs
      rintro e w6 ⟨rfl, hs⟩
      have hs := hs.made (.cells #[.int .u64 c.n, .string c.k, .int .u64 c.m] 63)
      go_wp2
      go_meet
      exact ⟨_, rfl, hs⟩
    case refine_4 =>
      intro w0 w5 hb0 hb5
      have hs := ((Hs.out.same hb0).made (.cells #[.int .u64 0, .string ⟨#[]⟩, .int .u64 0] 63)).same (by rw [World.size_alloc]; exact hb5)
      go_wp2_with fail
      refine (Q0.out _ _ hs.b2).mono ?_
      clear hs
      rintro e w6 ⟨rfl, hs⟩
      have kx := hs.k1
      have fx := hs.f1
      have hs := ((hs.b1.setL 0 (.int .u64 c.n)).setL 1 (.string c.k)).setL 2 (.int .u64 c.m)
      go_wp2
      go_meet
      exact ⟨_, rfl, hs⟩
  case rest =>
    clear k hs
    obtain ⟨bx, rfl, hs⟩ := hcut
    have kx := hs.k0
    have hs := hs.b2
    have kb := hs.k0
    have fb := hs.f0
    unfold rdCells at kb
    have hs1 := ((hs.setL 12 (.string c.k)).setL 13 (.bool o)).drop1.b1
    have hs2 := ((hs.setL 13 (.bool o)).setL 12 (.string c.k)).drop1.b1
    simp only [rdCells, List.set_cons_zero, List.set_cons_succ] at hs1 hs2
    clear hs
    go_upto_region 2 with (fail)
    go_region
    all_goals
      go_wp2
      go_ret
      first | exact ⟨rfl, hs1.b1⟩ | exact ⟨rfl, hs2.b1⟩ | exact ⟨rfl, hs1.b1.drew⟩ | exact ⟨rfl, hs2.b1.drew⟩

set_option maxHeartbeats 1000000 in
theorem right_st (hd : d.Ok) (hid : 0 ≤ id ∧ id < 18446744073709551616) (ha : acc ≤ 1000000000000)
    (hs : St K w (blk b (.cells (rdCells nx d id pg va left (stV th) word).toArray T) :: memC bm bc L acc :: F)) :
    Calls Tryz.prog 192 #[.pointer (some ⟨b, 2, none⟩), .pointer (some ⟨bm, 0, none⟩)] w fun e w' => e = .returned (stV (moreV b left th)) ∧
      St K w' (blk b (.cells (rdCells nx d id (pg.right (getC L (d.node id 3))) va left (stV th) word).toArray T) :: memC bm bc L (acc + 1) :: F) := by
  obtain ⟨c, hc⟩ : ∃ c, c = getC L (d.node id 3) := ⟨_, rfl⟩
  have q0 := fun (w : World) (F : List Comp) (hs : St K w (memC bm bc L acc :: F)) => load_st (i := d.node id 3) hs ha
  rw [← hc] at q0 ⊢
  have Q0 := Lib.hid q0
  clear q0 hc
  have k := hs.k0
  unfold rdCells at k
  have qm := fun w F (hs : St K w (blk b (.cells (rdCells nx d id (pg.right c) va left (stV th) word).toArray T) :: F)) => more_st hs
  cases ho : moreV b left th with
  | none =>
    rw [ho] at qm
    have Qm := Lib.hid qm
    clear qm ho
    go_enter Tryz.func192, Tryz.ntmps192
    go_upto_region 1 with (fail)
    refine region_tail_move _ 10 rfl rfl (by kernel_rfl) (by as_aux_lemma => kernel_rfl) (fun _ _ _ _ h => h) ?_
    simp only [List.take_succ_cons, List.take_zero, List.drop_succ_cons, List.drop_zero, Act.put, List.setIfInBounds_toArray, List.set_cons_zero, List.set_cons_succ, Act.eval]
    repeat (go_big_quiet_step ((go_at_call 128; exact pure_of (right_any d hd id hid.1 hid.2 _))))
    refine wpQuiet_nil ?_
    intro w5 hb5
    have hs := hs.same hb5
    clear k hb5
    go_wp2_with fail
    refine (Q0.out _ _ hs.b1).mono ?_
    clear hs
    rintro e w6 ⟨rfl, hs⟩
    have hs := hs.b1
    have k := hs.k0
    have kf := hs.f0
    unfold rdCells at k
    have hs := hs.setL 14 (.int .u64 c.n)
    simp only [rdCells, List.set_cons_zero, List.set_cons_succ] at hs
    go_wp2_with fail
    refine (Qm.out _ _ hs).mono ?_
    clear hs k kf
    rintro e w7 ⟨he, hs⟩
    obtain rfl : e = .returned .nilFunc := he
    go_wp2
    go_ret
    exact ⟨rfl, hs⟩
  | some o =>
    obtain ⟨f', x', y'⟩ := o
    rw [ho] at qm
    have Qm := Lib.hid qm
    clear qm ho
    go_enter Tryz.func192, Tryz.ntmps192
    go_upto_region 1 with (fail)
    refine region_tail_move _ 10 rfl rfl (by kernel_rfl) (by as_aux_lemma => kernel_rfl) (fun _ _ _ _ h => h) ?_
    simp only [List.take_succ_cons, List.take_zero, List.drop_succ_cons, List.drop_zero, Act.put, List.setIfInBounds_toArray, List.set_cons_zero, List.set_cons_succ, Act.eval]
    repeat (go_big_quiet_step ((go_at_call 128; exact pure_of (right_any d hd id hid.1 hid.2 _))))
    refine wpQuiet_nil ?_
    intro w5 hb5
    have hs := hs.same hb5
    clear k hb5
    go_wp2_with fail
    refine (Q0.out _ _ hs.b1).mono ?_
    clear hs
    rintro e w6 ⟨rfl, hs⟩
    have hs := hs.b1
    have k := hs.k0
    have kf := hs.f0
    unfold rdCells at k
    have hs := hs.setL 14 (.int .u64 c.n)
    simp only [rdCells, List.set_cons_zero, List.set_cons_succ] at hs
    go_wp2_with fail
    refine (Qm.out _ _ hs).mono ?_
    clear hs k kf
    rintro e w7 ⟨he, hs⟩
    obtain rfl : e = .returned (.func (.func f') x' y') := he
    go_wp2
    go_ret
    exact ⟨rfl, hs⟩
end
end Go.Proofs.YtlpdhhhgckpcfaaGreat

namespace Go.Proofs.YtlpdhhhgckpcfaaGreat
open Go.RowKit
set_option maxRecDepth 100000

section
variable {K : Know} {w : World} {F : List Comp} {b bm bc : Nat} {L : List Cel} {acc : Nat} {nx va : Value} {d : Cfg} {id : Int} {pg : Pg} {left : Nat} {th : Option FV} {word : Int} {T : TypeId}

set_option maxHeartbeats 8000000 in
theorem slot_st (hd : d.Ok) (hid : 0 ≤ id ∧ id < 18446744073709551616) (ha : acc ≤ 1000000000000) (hn : pg.sl.length ≤ 1000000) (hl : 0 < left ∧ left ≤ 1000000)
    (hs : St K w (blk b (.cells (rdCells nx d id pg va left (stV th) word).toArray T) :: rowC va 69 2 (pg).sl.length (slRow (pg).sl) :: memC bm bc L acc :: F)) :
    Calls Tryz.prog 195 #[.pointer (some ⟨b, 2, none⟩), .pointer (some ⟨bm, 0, none⟩)] w fun e w' => ∃ va', e = .returned (stV (moreV b (left - 1) th)) ∧
      St K w' (blk b (.cells (rdCells nx d id (pg.push (getC L (d.slot id pg.sl.length))) va' (left - 1) (stV th) word).toArray T) :: rowC va' 69 2 ((pg.push (getC L (d.slot id pg.sl.length)))).sl.length (slRow ((pg.push (getC L (d.slot id pg.sl.length)))).sl) :: memC bm bc L (acc + 1) :: F) := by
  obtain ⟨c, hc⟩ : ∃ c, c = getC L (d.slot id pg.sl.length) := ⟨_, rfl⟩
  have q0 := fun (w : World) (F : List Comp) (hs : St K w (memC bm bc L acc :: F)) => load_st (i := d.slot id pg.sl.length) hs ha
  rw [← hc] at q0 ⊢
  have Q0 := Lib.hid q0
  obtain ⟨n, hnn⟩ : ∃ n, n = pg.sl.length := ⟨_, rfl⟩
  have hln : (pg.push c).sl.length = n + 1 := by unfold Pg.push; rw [List.length_append, hnn]; rfl
  have hrow : slRow (pg.push c).sl = slRow pg.sl ++ [.string c.k, .int .u64 c.n] := by unfold Pg.push slRow; rw [List.flatMap_append]; rfl
  obtain ⟨xs, hxs⟩ : ∃ xs, xs = slRow pg.sl := ⟨_, rfl⟩
  rw [hln, hrow]
  rw [← hnn] at hn hs Q0
  rw [← hxs] at hs ⊢
  obtain ⟨sa, capn, rfl, hcap, _⟩ := hs.b1.row_read
  have Qs := Lib.hid (fun w => slot_any d hd id n hid.1 hid.2 w)
  have epg : pg.push c = ⟨pg.lev, pg.sl ++ [⟨c.k, c.n⟩], pg.hi, pg.la, pg.ri⟩ := rfl
  rw [epg]
  rw [← hnn] at q0
  obtain ⟨lf, hlf⟩ : ∃ lf, left = lf + 1 := ⟨left - 1, by omega⟩
  subst hlf
  rw [show lf + 1 - 1 = lf by omega]
  obtain ⟨iv, hiv0, hiv1, hiv2, hiv3⟩ := info_parts infoSlot
  clear q0 hc hnn hln hrow hxs epg
  have k := hs.k0
  unfold rdCells at k
  have qm := fun w va F (hs : St K w (blk b (.cells (rdCells nx d id (Pg.mk pg.lev (pg.sl ++ [⟨c.k, c.n⟩]) pg.hi pg.la pg.ri) va lf (stV th) word).toArray T) :: F)) => more_st hs
  have Qm := Lib.hid qm
  clear qm
  go_enter Tryz.func195, Tryz.ntmps195
  go_upto_region 1 with (fail)
  go_cut [5] (fun v wx => ∃ bx, v = .pointer (some ⟨bx, 0, none⟩) ∧ St K wx (blk bx (.cells #[.int .u64 c.n, .string c.k, .int .u64 c.m] 63) :: memC bm bc L (acc + 1) :: blk b (.cells (rdCells nx d id pg (.slice sa n capn) (lf + 1) (stV th) word).toArray T) :: rowC (.slice sa n capn) 69 2 n xs :: F))
  case first =>
    as_aux_lemma =>
    have hs := hs.b2.b1
    have Hs := Lib.hid hs
    clear k hs hl
    refine region_alloc 16 ?_ 5 (.cells #[.int .u64 0, .string ⟨#[]⟩, .int .u64 0] 63) rfl (by as_aux_lemma => kernel_rfl) rfl (fun _ _ => by kernel_rfl) ?_ ?_ ?_
    case refine_2 =>
      intro W hb
      have hs := Hs.out.same hb
      have k := hs.k0
      unfold rdCells at k
      simp only [List.take_succ_cons, List.take_zero, List.drop_succ_cons, List.drop_zero]
      repeat (go_big_quiet_step ((go_at_call 127; exact pure_of (Qs.out _))))
      refine wpQuiet_nil ?_
      rfl
    case refine_3 =>
      intro w5 hb5
      have hs := Hs.out.same hb5
      go_wp2_with fail
      refine (Q0.out _ _ hs.b1).mono ?_
      clear hs
      rintro e w6 ⟨rfl, hs⟩
      have hs := hs.made (.cells #[.int .u64 c.n, .string c.k, .int .u64 c.m] 63)
      go_wp2
      go_meet
      exact ⟨_, rfl, hs⟩
    case refine_4 =>
      intro w0 w5 hb0 hb5
      have hs := ((Hs.out.same hb0).made (.cells #[.int .u64 0, .string ⟨#[]⟩, .int .u64 0] 63)).same (by rw [World.size_alloc]; exact hb5)
      go_wp2_with fail
      refine (Q0.out _ _ hs.b2).mono ?_
      clear hs
      rintro e w6 ⟨rfl, hs⟩
      have kx := hs.k1
      have fx := hs.f1
      have hs := ((hs.b1.setL 0 (.int .u64 c.n)).setL 1 (.string c.k)).setL 2 (.int .u64 c.m)
      go_wp2
      go_meet
      exact ⟨_, rfl, hs⟩
  case rest =>
    clear k hs
    obtain ⟨bx, rfl, hs⟩ := hcut
    have Hs := Lib.hid hs
    have hln : n ≤ 1000000 := hn
    clear hs hd hid ha hn
    cases hmv : moreV b lf th with
    | none =>
      rw [hmv] at Qm
      have Hmv := Lib.hid hmv
      clear hmv
      go_upto_region 2 with (fail)
      refine region_block_move _ 10 ?aS 34 (.cells #[.string c.k, .int .u64 c.n] 69) (fun W => .slice (some ⟨W.heap.size, 0, none⟩) 1 1) rfl rfl (by kernel_rfl) ?hB rfl (fun _ _ _ _ h => h) ?H ?hal ?Ah
      case H =>
        intro W hb
        have hs := Hs.out.same hb
        have kx := hs.k0
        have kb := hs.k2
        unfold rdCells at kb
        simp only [List.take_succ_cons, List.take_zero, List.drop_succ_cons, List.drop_zero, Act.put, List.setIfInBounds_toArray, List.set_cons_zero, List.set_cons_succ, Act.eval]
        repeat (go_big_quiet_step (fail))
        refine wpQuiet_nil ?_
        rfl
      case hB => as_aux_lemma => kernel_rfl
      case hal =>
        intro w'
        kernel_rfl
      case Ah =>
        intro w0 w5 hb0 hb5
        have hs := ((Hs.out.same hb0).made (.cells [.string c.k, .int .u64 c.n].toArray 69)).same (by rw [World.size_alloc]; exact hb5)
        have hk := hs.k0
        have Hn := Lib.hid (fun (j : Nat) (u : Value) (hu : [Value.string c.k, .int .u64 c.n][j]? = some u) => (show ∃ g off, (some ⟨w0.heap.size, 0, none⟩ : Option Addr) = some ⟨g, off, none⟩ ∧ w5.cell? ⟨g, off + j, none⟩ = some u from ⟨_, 0, rfl, by rw [Nat.zero_add, hk j]; simpa using hu⟩))
        clear hk
        have Hr := Lib.hid hs.b4
        clear hs
        simp only [List.drop_succ_cons, List.drop_zero]
        refine append_row_st _ _ 41 69 _ n 1 1 2 24 xs [.string c.k, .int .u64 c.n] (.agg #[.string ⟨#[]⟩, .int .u64 0]) iv (some ⟨w0.heap.size, 0, none⟩) Hr.out rfl rfl Tryz.underlying41 hiv0 hiv1 hiv2 hiv3 rfl (by decide) rfl rfl rfl (fun e => by cases e) Hn.out (fun u hu => by simp at hu; rcases hu with rfl | rfl <;> rfl) (by omega) (by decide) ?_
        clear Hr Hn
        intro v' w6 hs
        obtain ⟨ao, capo, rfl, _, _⟩ := hs.row_read
        have hs := hs.b4
        have kb := hs.k0
        have fb := hs.f0
        unfold rdCells at kb
        have hs := ((hs.setL 11 (.slice ao (n + 1) capo)).setL 15 (.int .i64 lf))
        simp only [rdCells, List.set_cons_zero, List.set_cons_succ] at hs
        go_wp2_with fail
        refine (Qm.out _ _ _ hs).mono ?_
        clear hs kb fb
        rintro e w7 ⟨he, hs⟩
        obtain rfl : e = .returned .nilFunc := he
        go_wp2
        go_ret
        exact ⟨_, by rw [Hmv.out]; rfl, hs.sub (.cons_cons _ (.cons_cons _ (.cons _ (.cons _ (List.Sublist.refl _)))))⟩
    | some o =>
      obtain ⟨f', x', y'⟩ := o
      rw [hmv] at Qm
      have Hmv := Lib.hid hmv
      clear hmv
      go_upto_region 2 with (fail)
      refine region_block_move _ 10 ?aS2 34 (.cells #[.string c.k, .int .u64 c.n] 69) (fun W => .slice (some ⟨W.heap.size, 0, none⟩) 1 1) rfl rfl (by kernel_rfl) ?hB2 rfl (fun _ _ _ _ h => h) ?H2 ?hal2 ?Ah2
      case H2 =>
        intro W hb
        have hs := Hs.out.same hb
        have kx := hs.k0
        have kb := hs.k2
        unfold rdCells at kb
        simp only [List.take_succ_cons, List.take_zero, List.drop_succ_cons, List.drop_zero, Act.put, List.setIfInBounds_toArray, List.set_cons_zero, List.set_cons_succ, Act.eval]
        repeat (go_big_quiet_step (fail))
        refine wpQuiet_nil ?_
        rfl
      case hB2 => as_aux_lemma => kernel_rfl
      case hal2 =>
        intro w'
        kernel_rfl
      case Ah2 =>
        intro w0 w5 hb0 hb5
        have hs := ((Hs.out.same hb0).made (.cells [.string c.k, .int .u64 c.n].toArray 69)).same (by rw [World.size_alloc]; exact hb5)
        have hk := hs.k0
        have Hn := Lib.hid (fun (j : Nat) (u : Value) (hu : [Value.string c.k, .int .u64 c.n][j]? = some u) => (show ∃ g off, (some ⟨w0.heap.size, 0, none⟩ : Option Addr) = some ⟨g, off, none⟩ ∧ w5.cell? ⟨g, off + j, none⟩ = some u from ⟨_, 0, rfl, by rw [Nat.zero_add, hk j]; simpa using hu⟩))
        clear hk
        have Hr := Lib.hid hs.b4
        clear hs
        simp only [List.drop_succ_cons, List.drop_zero]
        refine append_row_st _ _ 41 69 _ n 1 1 2 24 xs [.string c.k, .int .u64 c.n] (.agg #[.string ⟨#[]⟩, .int .u64 0]) iv (some ⟨w0.heap.size, 0, none⟩) Hr.out rfl rfl Tryz.underlying41 hiv0 hiv1 hiv2 hiv3 rfl (by decide) rfl rfl rfl (fun e => by cases e) Hn.out (fun u hu => by simp at hu; rcases hu with rfl | rfl <;> rfl) (by omega) (by decide) ?_
        clear Hr Hn
        intro v' w6 hs
        obtain ⟨ao, capo, rfl, _, _⟩ := hs.row_read
        have hs := hs.b4
        have kb := hs.k0
        have fb := hs.f0
        unfold rdCells at kb
        have hs := ((hs.setL 11 (.slice ao (n + 1) capo)).setL 15 (.int .i64 lf))
        simp only [rdCells, List.set_cons_zero, List.set_cons_succ] at hs
        go_wp2_with fail
        refine (Qm.out _ _ _ hs).mono ?_
        clear hs kb fb
        rintro e w7 ⟨he, hs⟩
        obtain rfl : e = .returned (.func (.func f') x' y') := he
        go_wp2
        go_ret
        exact ⟨_, by rw [Hmv.out]; rfl, hs.sub (.cons_cons _ (.cons_cons _ (.cons _ (.cons _ (List.Sublist.refl _)))))⟩
end
end Go.Proofs.YtlpdhhhgckpcfaaGreat

namespace Go.Proofs.YtlpdhhhgckpcfaaGreat
open Go.RowKit
set_option maxRecDepth 100000

section
variable {K : Know} {w : World} {F : List Comp} {b bm bc : Nat} {L : List Cel} {acc : Nat} {nx va : Value} {d : Cfg} {id : Int} {pg : Pg} {left : Nat} {th : Option FV} {word : Int}

def rdVal (b : Nat) : Option FV := some ⟨191, #[.pointer (some ⟨b, 0, none⟩)], #[]⟩
def rdOpen (b : Nat) : Option FV := some ⟨183, #[.pointer (some ⟨b, 0, none⟩)], #[]⟩
def rdHead (b : Nat) : Option FV := some ⟨181, #[.pointer (some ⟨b, 2, none⟩)], #[]⟩

set_option maxHeartbeats 1000000 in
theorem open_st {tv : Value} (hd : d.Ok) (hid : 0 ≤ id ∧ id < 18446744073709551616) (ha : acc ≤ 1000000000000) (hL : 0 ≤ (getC L (d.node id 0)).n ∧ (getC L (d.node id 0)).n < 18446744073709551616)
    (hs : St K w (blk b (.cells (rdCells nx d id pg va left tv word).toArray 222) :: memC bm bc L acc :: F)) :
    Calls Tryz.prog 183 #[.pointer (some ⟨b, 0, none⟩), .pointer (some ⟨bm, 0, none⟩)] w fun e w' =>
      e = .returned (stV (cond (ltChg (getC L (d.node id 0)).n) (rdOpen b) (rdHead b))) ∧
      St K w' (blk b (.cells (rdCells nx d id pg va left (cond (ltChg (getC L (d.node id 0)).n) tv (stV (rdVal b))) (getC L (d.node id 0)).n).toArray 222) :: memC bm bc L (acc + 1) :: F) := by
  obtain ⟨c, hc⟩ : ∃ c, c = getC L (d.node id 0) := ⟨_, rfl⟩
  have q0 := fun (w : World) (F : List Comp) (hs : St K w (memC bm bc L acc :: F)) => load_st (i := d.node id 0) hs ha
  rw [← hc] at q0 hL ⊢
  have Q0 := Lib.hid q0
  have Qc := Lib.hid (fun w => ltChanging_any c.n hL.1 hL.2 w)
  clear q0 hc
  have k := hs.k0
  unfold rdCells at k
  cases ho : ltChg c.n with
  | true =>
    rw [ho] at Qc
    simp only [cond_true]
    clear ho
    go_enter Tryz.func183, Tryz.ntmps183
    go_upto_region 1 with (fail)
    refine region_tail_move _ 12 rfl rfl (by kernel_rfl) (by as_aux_lemma => kernel_rfl) (fun _ _ _ _ h => h) ?_
    simp only [List.take_succ_cons, List.take_zero, List.drop_succ_cons, List.drop_zero, Act.put, List.setIfInBounds_toArray, List.set_cons_zero, List.set_cons_succ, Act.eval]
    repeat (go_big_quiet_step ((go_at_call 69; exact pure_of (latch_any d hd id hid.1 hid.2 _))))
    refine wpQuiet_nil ?_
    intro w5 hb5
    have hs := hs.same hb5
    clear k hb5
    go_wp2_with fail
    refine (Q0.out _ _ hs.b1).mono ?_
    clear hs
    rintro e w6 ⟨rfl, hs⟩
    have hs := hs.b1
    have k := hs.k0
    have kf := hs.f0
    unfold rdCells at k
    have hs := hs.setL 17 (.int .u64 c.n)
    simp only [rdCells, List.set_cons_zero, List.set_cons_succ] at hs
    go_wp2_with fail
    refine (Qc.out _).mono ?_
    rintro e w7 ⟨rfl, rfl⟩
    go_wp2
    go_ret
    exact ⟨rfl, hs⟩
  | false =>
    rw [ho] at Qc
    simp only [cond_false]
    clear ho
    have qb := fun w F (hs : St K w (blk b (.cells (rdCells nx d id pg va left tv c.n).toArray 222) :: F)) => begin_st (th := rdVal b) hs
    have Qb := Lib.hid qb
    clear qb
    go_enter Tryz.func183, Tryz.ntmps183
    go_upto_region 1 with (fail)
    refine region_tail_move _ 12 rfl rfl (by kernel_rfl) (by as_aux_lemma => kernel_rfl) (fun _ _ _ _ h => h) ?_
    simp only [List.take_succ_cons, List.take_zero, List.drop_succ_cons, List.drop_zero, Act.put, List.setIfInBounds_toArray, List.set_cons_zero, List.set_cons_succ, Act.eval]
    repeat (go_big_quiet_step ((go_at_call 69; exact pure_of (latch_any d hd id hid.1 hid.2 _))))
    refine wpQuiet_nil ?_
    intro w5 hb5
    have hs := hs.same hb5
    clear k hb5
    go_wp2_with fail
    refine (Q0.out _ _ hs.b1).mono ?_
    clear hs
    rintro e w6 ⟨rfl, hs⟩
    have hs := hs.b1
    have k := hs.k0
    have kf := hs.f0
    unfold rdCells at k
    have hs := hs.setL 17 (.int .u64 c.n)
    simp only [rdCells, List.set_cons_zero, List.set_cons_succ] at hs
    go_wp2_with fail
    refine (Qc.out _).mono ?_
    rintro e w7 ⟨rfl, rfl⟩
    go_wp2_with fail
    refine (Qb.out _ _ hs).mono ?_
    clear hs k kf
    rintro e w8 ⟨rfl, hs⟩
    go_wp2
    go_ret
    exact ⟨rfl, hs⟩

end
end Go.Proofs.YtlpdhhhgckpcfaaGreat

namespace Go.Proofs.YtlpdhhhgckpcfaaGreat
open Go.RowKit

/-- So many steps. -/
def it {α : Type} (f : α → α) : Nat → α → α
  | 0, s => s
  | n + 1, s => it f n (f s)
theorem it_succ {α : Type} (f : α → α) (n : Nat) (s : α) : it f (n + 1) s = f (it f n s) := by
  induction n generalizing s with
  | zero => rfl
  | succ n ih => show it f (n + 1) (f s) = _; rw [ih]; rfl
theorem it_add {α : Type} (f : α → α) (m n : Nat) (s : α) : it f (m + n) s = it f n (it f m s) := by
  induction m generalizing s with
  | zero => rw [Nat.zero_add]; rfl
  | succ m ih => rw [show m + 1 + n = (m + n) + 1 by omega]; exact ih (f s)
theorem it_fix {α : Type} {f : α → α} {s : α} (h : f s = s) (n : Nat) : it f n s = s := by
  induction n with
  | zero => rfl
  | succ n ih => show it f n (f s) = s; rw [h, ih]
/-- What rests behind n steps is what stands behind all further ones. -/
theorem it_rest {α : Type} {f : α → α} {s t : α} {n m : Nat} (h : it f n s = t) (ht : f t = t) (hm : n ≤ m) : it f m s = t := by
  rw [show m = n + (m - n) by omega, it_add, h, it_fix ht]

/-! ### Cells -/
theorem getC_ne {L : List Cel} {i j : Int} {c : Cel} (h : j ≠ i) : getC (putC L i c) j = getC L j := by
  unfold getC putC
  by_cases hj : 0 ≤ j
  · rw [if_pos hj, if_pos hj]
    by_cases hi : 0 ≤ i
    · rw [if_pos hi, List.getElem?_set, if_neg (by omega)]
    · rw [if_neg hi]
  · rw [if_neg hj, if_neg hj]
theorem getC_eq {L : List Cel} {i : Int} {c : Cel} (hi : 0 ≤ i) (hl : i < L.length) : getC (putC L i c) i = c := by rw [getC_put hi hl hi, if_pos rfl]
theorem getC_neg {L : List Cel} {i : Int} (hi : i < 0) : getC L i = Cel.zero := by unfold getC; rw [if_neg (by omega)]
theorem putC_neg {L : List Cel} {i : Int} {c : Cel} (hi : i < 0) : putC L i c = L := by unfold putC; rw [if_neg (by omega)]

/-- Every number in the cells is one. -/
def CelOk (c : Cel) : Prop := 0 ≤ c.n ∧ c.n < 18446744073709551616
def CelsOk (L : List Cel) : Prop := ∀ i, CelOk (getC L i)
theorem CelsOk.put {L : List Cel} {i : Int} {c : Cel} (h : CelsOk L) (hc : CelOk c) : CelsOk (putC L i c) := by
  intro j
  by_cases hi : 0 ≤ i
  · by_cases hl : i < L.length
    · by_cases hj : j = i
      · subst hj; rw [getC_eq hi hl]; exact hc
      · rw [getC_ne hj]; exact h j
    · have : putC L i c = L := by unfold putC; rw [if_pos hi, List.set_eq_of_length_le (by omega)]
      rw [this]; exact h j
  · rw [putC_neg (by omega)]; exact h j

section
variable {d : Cfg} (hd : d.Ok)
include hd
theorem chain_in {c : Int} (h1 : 1 ≤ c) (h2 : c ≤ d.ch) : d.chain c = d.B + (c - 1) ∧ 0 ≤ d.chain c ∧ d.chain c < d.C := by
  have e : d.chain c = d.B + (c - 1) := by unfold Cfg.chain; rw [if_pos ⟨h1, h2⟩]
  have := hd.A_bd; have := hd.B_bd
  refine ⟨e, by omega, ?_⟩
  rw [e]; unfold Cfg.C; omega
end

/-! ### Chains -/
/-- A version in a record. -/
structure Ver where
  r : Int
  st : Int
  k : ByteArray
  del : Bool

def b01 (b : Bool) : Int := if b then 1 else 0
def VerAt (d : Cfg) (L : List Cel) (v : Ver) : Prop := 1 ≤ v.r ∧ v.r ≤ d.re ∧ (getC L (d.record v.r 0)).n = v.st ∧ (getC L (d.record v.r 1)).k = v.k ∧ (getC L (d.record v.r 1)).m = b01 v.del
/-- From record r on, the versions follow each other. -/
def Linked (d : Cfg) (L : List Cel) : Int → List Ver → Prop
  | r, [] => r = 0
  | r, v :: vs => r = v.r ∧ VerAt d L v ∧ Linked d L (getC L (d.record v.r 2)).n vs

theorem Linked.keep {d : Cfg} {L L' : List Cel} : ∀ {vs : List Ver} {r : Int}, Linked d L r vs → (∀ v, v ∈ vs → ∀ k, 0 ≤ k → k ≤ 2 → getC L' (d.record v.r k) = getC L (d.record v.r k)) → Linked d L' r vs := by
  intro vs
  induction vs with
  | nil => exact fun h _ => h
  | cons v vs ih =>
    intro r ⟨h1, ⟨h2, h3, h4, h5, h6⟩, h7⟩ hk
    have k0 := hk v (by simp) 0 (by omega) (by omega)
    have k1 := hk v (by simp) 1 (by omega) (by omega)
    have k2 := hk v (by simp) 2 (by omega) (by omega)
    exact ⟨h1, ⟨h2, h3, by rw [k0]; exact h4, by rw [k1]; exact h5, by rw [k1]; exact h6⟩, by rw [k2]; exact ih h7 (fun v' hv' => hk v' (by simp [hv']))⟩
theorem Linked.bd {d : Cfg} {L : List Cel} : ∀ {vs : List Ver} {r : Int}, Linked d L r vs → ∀ v, v ∈ vs → 1 ≤ v.r ∧ v.r ≤ d.re := by
  intro vs
  induction vs with
  | nil => intro r _ v hv; simp at hv
  | cons v vs ih =>
    intro r ⟨_, ⟨h2, h3, _⟩, h7⟩ v' hv'
    rcases List.mem_cons.1 hv' with rfl | hv'
    · exact ⟨h2, h3⟩
    · exact ih h7 v' hv'

/-! ### The machines that walk -/

/-! ### Truncate -/

end Go.Proofs.YtlpdhhhgckpcfaaGreat

namespace Go.Proofs.YtlpdhhhgckpcfaaGreat
open Go.RowKit
set_option maxRecDepth 100000

/-- Read: 0 open, 1 head, 2 high, 3 right, 4 slot, 5 validate, 6 done; t: whether what follows the copy has been laid down. -/
structure RdS where
  pc : Nat
  pg : Pg
  left : Nat
  word : Int
  t : Bool
def pg0 : Pg := ⟨0, [], ⟨#[]⟩, false, 0⟩
def rd0 : RdS := ⟨0, pg0, 0, 0, false⟩
def rdStep (d : Cfg) (id : Int) (L : List Cel) (s : RdS) : RdS :=
  match s.pc with
  | 0 => if ltChg (getC L (d.node id 0)).n then ⟨0, s.pg, s.left, (getC L (d.node id 0)).n, s.t⟩ else ⟨1, s.pg, s.left, (getC L (d.node id 0)).n, true⟩
  | 1 => ⟨2, ⟨wrap64 (getC L (d.node id 1)).m, [], ⟨#[]⟩, false, 0⟩, leftOf d (getC L (d.node id 1)), s.word, s.t⟩
  | 2 => ⟨3, s.pg.high (getC L (d.node id 2)), s.left, s.word, s.t⟩
  | 3 => ⟨if s.left = 0 then 5 else 4, s.pg.right (getC L (d.node id 3)), s.left, s.word, s.t⟩
  | 4 => ⟨if s.left - 1 = 0 then 5 else 4, s.pg.push (getC L (d.slot id s.pg.sl.length)), s.left - 1, s.word, s.t⟩
  | 5 => if ltUnlock s.word == ltUnlock (getC L (d.node id 0)).n then ⟨6, s.pg, s.left, s.word, s.t⟩ else ⟨0, s.pg, s.left, s.word, s.t⟩
  | _ => s

/-- The state functions. -/
def rdPv (b : Nat) : Nat → Option FV
  | 0 => rdOpen b
  | 1 => rdHead b
  | 2 => some ⟨189, #[.pointer (some ⟨b, 2, none⟩)], #[]⟩
  | 3 => some ⟨192, #[.pointer (some ⟨b, 2, none⟩)], #[]⟩
  | 4 => some ⟨195, #[.pointer (some ⟨b, 2, none⟩)], #[]⟩
  | 5 => rdVal b
  | _ => none
def rdTh (b : Nat) (t : Bool) : Option FV := if t then rdVal b else none
/-- The machine's block; its slots are a row of their own. -/
def rdC (b : Nat) (d : Cfg) (id : Int) (va : Value) (s : RdS) : Comp := blk b (.cells (rdCells (stV (rdPv b s.pc)) d id s.pg va s.left (stV (rdTh b s.t)) s.word).toArray 222)
def slC (va : Value) (pg : Pg) : Comp := rowC va 69 2 (pg).sl.length (slRow (pg).sl)
theorem rdPv_none {b p : Nat} : (rdPv b p).isNone = decide (6 ≤ p) := by
  match p with
  | 0 => rfl
  | 1 => rfl
  | 2 => rfl
  | 3 => rfl
  | 4 => rfl
  | 5 => rfl
  | n + 6 => simp [rdPv]
theorem more_pv {b left : Nat} : moreV b left (rdVal b) = rdPv b (if left = 0 then 5 else 4) := by
  unfold moreV
  split <;> rfl

/-- What a reader's state has to keep. -/
structure RdS.Ok (d : Cfg) (s : RdS) : Prop where
  pc : s.pc ≤ 6
  word : 0 ≤ s.word ∧ s.word < 18446744073709551616
  len : s.pc ≤ 1 ∨ (s.pg.sl.length + s.left : Int) ≤ d.fa
  th : s.pc = 0 ∨ s.pc = 6 ∨ s.t = true
  left : s.pc = 4 → 0 < s.left
theorem rd0_ok (d : Cfg) : rd0.Ok d := ⟨by decide, ⟨by decide, by decide⟩, .inl (by decide), .inl rfl, by decide⟩
theorem leftOf_le {d : Cfg} (hd : d.Ok) {c : Cel} (hc : CelOk c) : (leftOf d c : Int) ≤ d.fa := by
  have := hd.fa1
  have := hc.1
  unfold leftOf
  omega
theorem rdStep_ok {d : Cfg} (hd : d.Ok) {id : Int} {L : List Cel} (hL : CelsOk L) {s : RdS} (h : s.Ok d) : (rdStep d id L s).Ok d := by
  obtain ⟨pc, pg, left, word, t⟩ := s
  have h1 := h.pc; have h2 := h.word; have h3 := h.len; have h4 := h.th; have h5 := h.left
  simp only at h1 h2 h3 h4 h5
  rcases (show pc = 0 ∨ pc = 1 ∨ pc = 2 ∨ pc = 3 ∨ pc = 4 ∨ pc = 5 ∨ pc = 6 by omega) with rfl | rfl | rfl | rfl | rfl | rfl | rfl
  · simp only [rdStep]
    split
    · exact ⟨by simp, hL _, .inl (by simp), .inl rfl, by simp⟩
    · exact ⟨by simp, hL _, .inl (by simp), .inr (.inr rfl), by simp⟩
  · simp only [rdStep]
    exact ⟨by simp, h2, .inr (by simpa using leftOf_le hd (hL _)), by simpa using h4, by simp⟩
  · simp only [rdStep]
    exact ⟨by simp, h2, .inr (by simpa [Pg.high] using h3), by simpa using h4, by simp⟩
  · simp only [rdStep]
    refine ⟨by simp only; split <;> omega, h2, .inr (by simpa [Pg.right] using h3), .inr (.inr (by simpa using h4)), ?_⟩
    simp only
    split <;> omega
  · simp only [rdStep]
    have hl : 0 < left := h5 rfl
    refine ⟨by simp only; split <;> omega, h2, .inr ?_, .inr (.inr (by simpa using h4)), ?_⟩
    · have h3' : (pg.sl.length : Int) + left ≤ d.fa := by simpa using h3
      simp only [Pg.push, List.length_append, List.length_singleton]
      omega
    · simp only
      split <;> omega
  · simp only [rdStep]
    split
    · exact ⟨by simp, h2, .inr (by simpa using h3), .inr (.inl rfl), by simp⟩
    · exact ⟨by simp, h2, .inl (by simp), .inl rfl, by simp⟩
  · exact h

section
variable {K : Know} {w : World} {F : List Comp} {b bm bc : Nat} {L : List Cel} {acc : Nat} {nx va : Value} {d : Cfg} {id : Int} {s : RdS}

theorem enters_open : Enters 183 := fun _ _ => rfl
theorem enters_head : Enters 181 := fun _ _ => rfl
theorem enters_high : Enters 189 := fun _ _ => rfl
theorem enters_right : Enters 192 := fun _ _ => rfl
theorem enters_slot : Enters 195 := fun _ _ => rfl
theorem enters_validate : Enters 191 := fun _ _ => rfl

/-- A step whose state function leaves parts that hang on a value. -/
theorem runStep_some {α : Type} {m : Nat} {f : FV} {o : Option FV} {nx : Value} {tl : α → List Value} {T : TypeId} {F' : α → List Comp} (hf : Enters f.f) (hc : w.cell? ⟨b, 0, none⟩ = some (stV (some f)))
    (hcall : Calls Tryz.prog f.f (f.x ++ #[.pointer (some ⟨m, 0, none⟩)] ++ f.y) w fun e w1 => ∃ x, e = .returned (stV o) ∧ St K w1 (blk b (.cells (nx :: tl x).toArray T) :: F' x)) :
    Calls Tryz.prog 77 #[.pointer (some ⟨b, 0, none⟩), .pointer (some ⟨m, 0, none⟩)] w fun e w' => ∃ x, e = .returned (.bool o.isNone) ∧ St K w' (blk b (.cells (stV o :: tl x).toArray T) :: F' x) := by
  refine (runStep_st (R := fun l => ∃ x, l = ⟨o, K, nx, tl x, T, F' x⟩) w b m f hf hc (hcall.mono fun e w1 ⟨x, he, hs⟩ => ⟨⟨o, K, nx, tl x, T, F' x⟩, he, ⟨x, rfl⟩, hs⟩)).mono ?_
  rintro e w' ⟨l, he, ⟨x, rfl⟩, hs⟩
  exact ⟨x, he, hs⟩
end
end Go.Proofs.YtlpdhhhgckpcfaaGreat

namespace Go.Proofs.YtlpdhhhgckpcfaaGreat
open Go.RowKit
set_option maxRecDepth 100000

theorem slRow_at (l : List Sl) : ∀ (i : Nat) (s : Sl), l[i]? = some s → (slRow l)[i * 2]? = some (.string s.k) ∧ (slRow l)[i * 2 + 1]? = some (.int .u64 s.r) := by
  induction l with
  | nil => intro i s h; simp at h
  | cons a l ih =>
    intro i s h
    have e : slRow (a :: l) = .string a.k :: .int .u64 a.r :: slRow l := rfl
    rw [e]
    cases i with
    | zero => simp at h; subst h; exact ⟨rfl, rfl⟩
    | succ i =>
      have := ih i s (by simpa using h)
      rw [show (i + 1) * 2 = i * 2 + 2 by omega]
      simpa using this
/-- A slice of slots. -/
def SlAt (w : World) (a : Option Addr) (l : List Sl) : Prop := l.length ≤ 1000000000 ∧ ∀ (i : Nat) (s : Sl), l[i]? = some s →
  ∃ b off, a = some ⟨b, off, none⟩ ∧ b < w.heap.size ∧ w.cell? ⟨b, off + i * 2, none⟩ = some (.string s.k) ∧ w.cell? ⟨b, off + i * 2 + 1, none⟩ = some (.int .u64 s.r)
theorem SlAt.same {w w' : World} {a : Option Addr} {l : List Sl} (h : SlAt w a l) (hb : Below w.heap.size w w') : SlAt w' a l :=
  ⟨h.1, fun i s hv => by
    obtain ⟨b, off, e, hlt, c0, c1⟩ := h.2 i s hv
    exact ⟨b, off, e, Nat.lt_of_lt_of_le hlt hb.size, by rw [hb.cell (p := ⟨b, _, none⟩) hlt]; exact c0, by rw [hb.cell (p := ⟨b, _, none⟩) hlt]; exact c1⟩⟩
theorem St.row_slots {K : Know} {w : World} {F : List Comp} {a : Option Addr} {n cap : Nat} {T : TypeId} {l : List Sl} (h : St K w (rowC (.slice a n cap) T 2 n (slRow l) :: F)) (hn : l.length ≤ 1000000000) : SlAt w a l := by
  refine ⟨hn, fun i s hs => ?_⟩
  obtain ⟨r0, r1⟩ := slRow_at l i s hs
  obtain ⟨g, e, c0⟩ := h.row_at r0
  obtain ⟨g1, e1, c1⟩ := h.row_at r1
  rw [e] at e1
  simp only [Option.some.injEq, Addr.mk.injEq, and_true] at e1
  subst e1
  exact ⟨g, 0, e, World.block_lt_of_cell? _ _ c0, by rw [Nat.zero_add]; exact c0, by rw [Nat.zero_add]; exact c1⟩
theorem SlAt.news {w : World} {a : Option Addr} {l : List Sl} (h : SlAt w a l) : ∀ j u, (slRow l)[j]? = some u → ∃ g off, a = some ⟨g, off, none⟩ ∧ w.cell? ⟨g, off + j, none⟩ = some u := by
  intro j u hu
  have hj : j < l.length * 2 := by rw [← slRow_length]; exact (List.getElem?_eq_some_iff.1 hu).1
  have hlt : j / 2 < l.length := by omega
  obtain ⟨s, hs⟩ : ∃ s, l[j / 2]? = some s := ⟨_, List.getElem?_eq_getElem hlt⟩
  obtain ⟨b, off, e, _, c0, c1⟩ := h.2 _ _ hs
  obtain ⟨r0, r1⟩ := slRow_at _ _ _ hs
  refine ⟨b, off, e, ?_⟩
  have hdm : j = j / 2 * 2 + j % 2 := by omega
  rcases (show j % 2 = 0 ∨ j % 2 = 1 by omega) with h3 | h3
  · rw [hdm, h3, Nat.add_zero] at hu ⊢
    rw [r0] at hu; rw [← hu]; exact c0
  · rw [hdm, h3] at hu ⊢
    rw [r1] at hu; rw [← hu]; rw [← Nat.add_assoc]; exact c1
theorem slRow_one (l : List Sl) : ∀ u, u ∈ slRow l → u.oneCell' = true := by
  intro u hu
  obtain ⟨s, _, hs⟩ := List.mem_flatMap.1 hu
  simp [slCells] at hs
  rcases hs with rfl | rfl <;> rfl
theorem SlAt.no {w : World} {l : List Sl} (h : SlAt w none l) : l = [] := by
  cases l with
  | nil => rfl
  | cons s l => obtain ⟨b, off, e, _⟩ := h.2 0 s rfl; cases e

theorem clone_res (tmps : Array Value) (w : World) (b : Nat) (v0 v1 v2 v3 v4 : Value) (hp : tmps[2]? = some (.pointer (some ⟨b, 0, none⟩))) (hk : ∀ k, w.cell? ⟨b, k, none⟩ = (#[v0, v1, v2, v3, v4] : Array Value)[k]?) :
    (results Tryz.f91 tmps).run Tryz.prog w = .ok (.agg #[v0, v1, v2, v3, v4]) w := by
  simp [results, Tryz.results91, go_sem, hp, hk]

section
variable {K : Know} {w : World} {F : List Comp} {pg : Pg} {a : Option Addr} {cap : Nat}
set_option maxHeartbeats 1000000 in
theorem clone_st (hs : St K w F) (h : SlAt w a pg.sl) :
    Calls Tryz.prog 91 #[.agg #[.int .i64 (pg).lev, (.slice a pg.sl.length cap), .string (pg).hi, .bool (pg).la, .int .u64 (pg).ri]] w fun e w' => ∃ va, e = .returned (.agg #[.int .i64 (pg).lev, va, .string (pg).hi, .bool (pg).la, .int .u64 (pg).ri]) ∧ St K w' (rowC va 69 2 pg.sl.length (slRow pg.sl) :: F) := by
  obtain ⟨n, hn⟩ : ∃ n, n = pg.sl.length := ⟨_, rfl⟩
  have hl := h.1
  have Hl := Lib.hid (show (slRow pg.sl).length = n * 2 by rw [slRow_length, hn])
  have H0 : Hid (a = none → n = 0) := Lib.hid (fun e => by subst e; rw [hn, h.no]; rfl)
  have H1 := Lib.hid (slRow_one pg.sl)
  rw [← hn] at hl ⊢
  obtain ⟨iv, hiv0, hiv1, hiv2, hiv3⟩ := info_parts infoSlot
  have hs := (hs.made (.cells #[.int .i64 (pg).lev, (.slice a n cap), .string (pg).hi, .bool (pg).la, .int .u64 (pg).ri] 43)).made (.cells #[.int .i64 0, .slice none 0 0, .string ⟨#[]⟩, .bool false, .int .u64 0] 43)
  rw [World.size_alloc] at hs
  have h2 := (h.same ((Below.refl w.heap.size w).alloc (Nat.le_refl _) (.cells #[.int .i64 (pg).lev, (.slice a n cap), .string (pg).hi, .bool (pg).la, .int .u64 (pg).ri] 43)))
  have h3 := h2.same ((Below.refl _ _).alloc (Nat.le_refl _) (.cells #[.int .i64 0, .slice none 0 0, .string ⟨#[]⟩, .bool false, .int .u64 0] 43))
  have Hn := Lib.hid h3.news
  obtain ⟨sl, hsl⟩ : ∃ sl, sl = slRow pg.sl := ⟨_, rfl⟩
  rw [← hsl] at Hl H1 Hn ⊢
  have Hs := Lib.hid (hs.row_nil (T := 69) (size := 2))
  clear hs h h2 h3 hn hsl
  go_enter Tryz.func91, Tryz.ntmps91
  go_wp2_with (at_builtin; refine append_row_st _ _ 41 69 _ 0 n cap 2 24 [] sl (.agg #[.string ⟨#[]⟩, .int .u64 0]) iv a Hs.out rfl rfl Tryz.underlying41 hiv0 hiv1 hiv2 hiv3 rfl (by decide) rfl rfl Hl.out H0.out Hn.out H1.out (by omega) (by decide) ?_)
  intro v' w' hs
  obtain ⟨ao, capo, hv, _, _⟩ := hs.row_read
  subst hv
  have hs := hs.b2
  have kb := hs.k0
  have fb := hs.f0
  have kr := hs.k2
  have fr := hs.f2
  have hs := (hs.setL 1 (.slice ao n capo)).b2
  simp only [List.set_cons_zero, List.set_cons_succ] at hs
  have hs := ((((hs.setL 0 (.int .i64 pg.lev)).setL 1 (.slice ao n capo)).setL 2 (.string pg.hi)).setL 3 (.bool pg.la)).setL 4 (.int .u64 pg.ri)
  simp only [List.set_cons_zero, List.set_cons_succ] at hs
  clear Hs Hl H0 H1 Hn
  go_wp2
  refine bodyPost_ret (clone_res _ _ (w.heap.size + 1) _ _ _ _ _ rfl hs.k0) rfl ⟨_, rfl, hs.tail.tail⟩

theorem rdDone_any (w : World) (b : Nat) (h0 : w.cell? ⟨b, 0, none⟩ = some .nilFunc) (h1 : w.cell? ⟨b, 1, none⟩ = some (.bool true)) : Calls Tryz.prog 105 #[.pointer (some ⟨b, 0, none⟩)] w fun e w' => e = .returned (.bool true) ∧ w = w' := by
  go_enter Tryz.func105, Tryz.ntmps105
  go_wp2
  go_ret
  exact ⟨rfl, rfl⟩
theorem page_res (tmps : Array Value) (w : World) (b : Nat) (v0 v1 v2 v3 v4 : Value) (hp : tmps[2]? = some (.pointer (some ⟨b, 0, none⟩))) (hk : ∀ k, w.cell? ⟨b, k, none⟩ = (#[v0, v1, v2, v3, v4] : Array Value)[k]?) :
    (results Tryz.f167 tmps).run Tryz.prog w = .ok (.agg #[v0, v1, v2, v3, v4]) w := by
  simp [results, Tryz.results167, go_sem, hp, hk]

set_option maxHeartbeats 1000000 in
theorem rdPage_st {b : Nat} {va : Value} {d : Cfg} {id : Int} {s : RdS} (h6 : s.pc = 6) (hn : s.pg.sl.length ≤ 1000000) (hs : St K w (rdC b d id va s :: slC va s.pg :: F)) :
    Calls Tryz.prog 167 #[.pointer (some ⟨b, 0, none⟩)] w fun e w' => ∃ va', e = .returned (.agg #[.int .i64 (s.pg).lev, va', .string (s.pg).hi, .bool (s.pg).la, .int .u64 (s.pg).ri]) ∧ St K w' (slC va' s.pg :: rdC b d id va s :: slC va s.pg :: F) := by
  obtain ⟨pc, pg, left, word, t⟩ := s
  simp only at h6 hn
  subst h6
  have hs : St K w (rdC b d id va ⟨6, pg, left, word, t⟩ :: slC va pg :: F) := hs
  obtain ⟨a, cap, rfl, _, _⟩ := (show St K w (rowC va 69 2 pg.sl.length (slRow pg.sl) :: rdC b d id va ⟨6, pg, left, word, t⟩ :: F) from hs.b1).row_read
  obtain ⟨th, hth⟩ : ∃ th, th = stV (rdTh b t) := ⟨_, rfl⟩
  have hs : St K w (blk b (.cells (rdCells .nilFunc d id pg (.slice a pg.sl.length cap) left th word).toArray 222) :: rowC (.slice a pg.sl.length cap) 69 2 pg.sl.length (slRow pg.sl) :: F) := by rw [hth]; exact hs
  have hsl := hs.b1.row_slots (by omega)
  have hs0 := hs
  have hs := hs.made (.cells #[.int .i64 0, .slice none 0 0, .string ⟨#[]⟩, .bool false, .int .u64 0] 43)
  have hsl := hsl.same ((Below.refl w.heap.size w).alloc (Nat.le_refl _) (.cells #[.int .i64 0, .slice none 0 0, .string ⟨#[]⟩, .bool false, .int .u64 0] 43))
  have Qd := Lib.hid (rdDone_any (w.alloc (.cells #[.int .i64 0, .slice none 0 0, .string ⟨#[]⟩, .bool false, .int .u64 0] 43)) b (hs.k1 0) (hs.k1 1))
  have Qc := Lib.hid (clone_st (cap := cap) hs hsl)
  have k := hs.k1
  unfold rdCells at k
  have Hth := Lib.hid hth
  clear hs hsl hs0 hth
  go_enter Tryz.func167, Tryz.ntmps167
  go_wp2_with fail
  refine (Qd.out).mono ?_
  rintro e w1 ⟨rfl, rfl⟩
  go_wp2_with fail
  refine (Qc.out).mono ?_
  clear Qc Qd k
  rintro e w2 ⟨va', rfl, hs⟩
  obtain ⟨a2, cap2, hv, _, _⟩ := hs.row_read
  subst hv
  have hs := hs.b1
  have kb := hs.k0
  have fb := hs.f0
  have hs := ((((hs.setL 0 (.int .i64 pg.lev)).setL 1 (.slice a2 pg.sl.length cap2)).setL 2 (.string pg.hi)).setL 3 (.bool pg.la)).setL 4 (.int .u64 pg.ri)
  simp only [List.set_cons_zero, List.set_cons_succ] at hs
  go_wp2
  refine bodyPost_ret (page_res _ _ w.heap.size _ _ _ _ _ rfl hs.k0) rfl ⟨_, rfl, ?_⟩
  have h := hs.tail
  rw [Hth.out] at h
  exact h

theorem newRead_st {d : Cfg} {id : Int} (hs : St K w F) :
    Calls Tryz.prog 165 #[.agg #[.int .i64 d.th, .int .i64 d.sn, .int .i64 d.no, .int .i64 d.ch, .int .i64 d.re, .int .i64 d.fa, .int .u64 d.cl], .int .u64 id] w fun e w' => ∃ b, e = .returned (.pointer (some ⟨b, 0, none⟩)) ∧ St K w' (rdC b d id (.slice none 0 0) rd0 :: slC (.slice none 0 0) pg0 :: F) := by
  have hs := hs.pass (.cells #[.int .i64 d.th, .int .i64 d.sn, .int .i64 d.no, .int .i64 d.ch, .int .i64 d.re, .int .i64 d.fa, .int .u64 d.cl] 29)
  have hs := hs.made (.cells #[.nilFunc, .bool false, .int .i64 d.th, .int .i64 d.sn, .int .i64 d.no, .int .i64 d.ch, .int .i64 d.re, .int .i64 d.fa, .int .u64 d.cl, .int .u64 id, .int .i64 0, .slice none 0 0, .string ⟨#[]⟩, .bool false, .int .u64 0, .int .i64 0, .nilFunc, .int .u64 0] 222)
  rw [World.size_alloc] at hs
  go_enter Tryz.func165, Tryz.ntmps165
  go_wp2_with fail
  refine (calls_same hs (begin_any _ _ _ _)).mono ?_
  clear hs
  rintro e w2 ⟨rfl, hs⟩
  have k := hs.k0
  have kf := hs.f0
  have hs := (hs.setL 0 (.func (.func 183) #[.pointer (some ⟨(w.heap.size + 1), 0, none⟩)] #[])).setL 1 (.bool true)
  simp only [List.set_cons_zero, List.set_cons_succ] at hs
  go_wp2
  go_ret
  exact ⟨_, rfl, hs.row_nil.b1⟩
end
end Go.Proofs.YtlpdhhhgckpcfaaGreat

namespace Go.Proofs.YtlpdhhhgckpcfaaGreat
open Go.RowKit
set_option maxRecDepth 100000

section
variable {pg : Pg} {a a' : Option Addr} {cap cap' : Nat}
end
end Go.Proofs.YtlpdhhhgckpcfaaGreat
