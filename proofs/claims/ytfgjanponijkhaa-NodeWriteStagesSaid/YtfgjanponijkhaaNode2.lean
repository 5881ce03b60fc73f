/- The copier's head (package node). -/
import Derived.Test.YtfgjanponijkhaaNode1
import Derived.Test.YtfgjanponijkhaaTail4
namespace Go.Proofs.Ytfgjanponijkhaa
open Go.RowKit
set_option maxRecDepth 100000

section
variable {K : Know} {w : World} {F : List Comp} {b bm bc : Nat} {L : List Cel} {acc : Nat} {nx va : Value} {d : Cfg} {id : Int} {pg : Pg} {left : Nat} {th : Option FV} {word : Int} {T : TypeId}

/-- The number of slots that will be read. -/
def leftOf (d : Cfg) (c : Cel) : Nat := (min c.n d.fa).toNat

set_option maxHeartbeats 4000000 in
theorem head_st (hd : d.Ok) (hid : 0 ≤ id ∧ id < 18446744073709551616) (ha : acc ≤ 1000000000000) (hL : 0 ≤ (getC L (d.node id 1)).n ∧ (getC L (d.node id 1)).n < 18446744073709551616)
    (hs : St K w (blk b (.cells (rdCells nx d id pg va left (stV th) word).toArray T) :: memC bm bc L acc :: F)) :
    Calls Try.prog 164 #[.pointer (some ⟨b, 2, none⟩), .pointer (some ⟨bm, 0, none⟩)] w fun e w' => e = .returned (.func (.func 187) #[.pointer (some ⟨b, 2, none⟩)] #[]) ∧
      St K w' (blk b (.cells (rdCells nx d id (Pg.mk (wrap64 (getC L (d.node id 1)).m) [] ⟨#[]⟩ false 0) (.slice none 0 0) (leftOf d (getC L (d.node id 1))) (stV th) word).toArray T) :: memC bm bc L (acc + 1) :: F) := by
  obtain ⟨c, hc⟩ : ∃ c, c = getC L (d.node id 1) := ⟨_, rfl⟩
  have q0 := fun (w : World) (F : List Comp) (hs : St K w (memC bm bc L acc :: F)) => load_st (i := d.node id 1) hs ha
  rw [← hc] at q0 hL ⊢
  have Q0 := Lib.hid q0
  clear q0 hc
  have k := hs.k0
  unfold rdCells at k
  go_enter Try.func164, Try.ntmps164
  go_upto_region 1 with (fail)
  go_cut [5] (fun v wx => ∃ bx, v = .pointer (some ⟨bx, 0, none⟩) ∧ St K wx (blk bx (.cells #[.int .u64 c.n, .string c.k, .int .u64 c.m] 41) :: memC bm bc L (acc + 1) :: blk b (.cells (rdCells nx d id pg va left (stV th) word).toArray T) :: F))
  case first =>
    as_aux_lemma =>
    have Hs := Lib.hid hs
    clear k hs
    refine region_alloc 10 ?_ 5 (.cells #[.int .u64 0, .string ⟨#[]⟩, .int .u64 0] 41) rfl (by as_aux_lemma => kernel_rfl) rfl (fun _ _ => by kernel_rfl) ?_ ?_ ?_
    case refine_2 =>
      intro W hb
      have hs := Hs.out.same hb
      have k := hs.k0
      unfold rdCells at k
      simp only [List.take_succ_cons, List.take_zero, List.drop_succ_cons, List.drop_zero]
      repeat (go_big_quiet_step ((go_at_call 118; exact pure_of (head_any d hd id hid.1 hid.2 _))))
      refine wpQuiet_nil ?_
      rfl
    case refine_3 =>
      intro w5 hb5
      have hs := Hs.out.same hb5
      go_wp2_with fail
      refine (Q0.out _ _ hs.b1).mono ?_
      clear hs
      rintro e w6 ⟨rfl, hs⟩
      have hs := hs.made (.cells #[.int .u64 c.n, .string c.k, .int .u64 c.m] 41)
      go_wp2
      go_meet
      exact ⟨_, rfl, hs⟩
    case refine_4 =>
      intro w0 w5 hb0 hb5
      have hs := ((Hs.out.same hb0).made (.cells #[.int .u64 0, .string ⟨#[]⟩, .int .u64 0] 41)).same (by rw [World.size_alloc]; exact hb5)
      go_wp2_with fail
      refine (Q0.out _ _ hs.b2).mono ?_
      clear hs
      rintro e w6 ⟨rfl, hs⟩
      have kx := hs.k1
      have fx := hs.f1
      have hs := ((hs.b1.setL 0 (.int .u64 c.n)).setL 1 (.string c.k)).setL 2 (.int .u64 c.m)
      go_wp2
      go_meet
      exact ⟨_, rfl, hs⟩
  case rest =>
    clear k hs
    obtain ⟨bx, rfl, hs⟩ := hcut
    have kx := hs.k0
    have kb := hs.k2
    have fb := hs.f2
    unfold rdCells at kb
    have hs := ((((((hs.b2.setL 10 (.int .i64 (wrap64 c.m))).setL 11 (.slice none 0 0)).setL 12 (.string ⟨#[]⟩)).setL 13 (.bool false)).setL 14 (.int .u64 0)))
    simp only [rdCells, List.set_cons_zero, List.set_cons_succ] at hs
    go_upto_region 3 with (fail)
    refine wp_ck hs ?_
    clear kx kb fb hs
    intro W hs
    have kx := hs.k1
    have kb := hs.k0
    have fb := hs.f0
    have Q := Lib.hid (fun w' => config_any d w')
    have hf1 := hd.fa1
    have hf2 := hd.fa2
    refine region_tail 14 (by kernel_rfl) (by as_aux_lemma => kernel_rfl) ?_
    simp only [List.take_succ_cons, List.take_zero, List.drop_succ_cons, List.drop_zero]
    by_cases hm : c.n ≤ d.fa
    · have e : leftOf d c = c.n.toNat := by unfold leftOf; rw [Int.min_eq_left hm]
      have e2 : ((leftOf d c : Nat) : Int) = c.n := by rw [e]; omega
      repeat (go_big_quiet_step ((go_at_call 109; exact pure_of (Q.out _))))
      refine wpQuiet_nil ?_
      intro w5 hb5
      have hs := hs.same hb5
      have kb := hs.k0
      have fb := hs.f0
      have hs := hs.setL 15 (.int .i64 c.n)
      simp only [List.set_cons_zero, List.set_cons_succ] at hs
      have E2 := Lib.hid e2
      clear e e2
      go_wp2
      go_ret
      exact ⟨rfl, by unfold rdCells; rw [E2.out]; exact hs.b1.tail⟩
    · have hm2 : ¬ c.n ≤ d.fa := hm
      have e : leftOf d c = d.fa.toNat := by unfold leftOf; rw [Int.min_eq_right (by omega)]
      have e2 : ((leftOf d c : Nat) : Int) = d.fa := by rw [e]; omega
      repeat (go_big_quiet_step ((go_at_call 109; exact pure_of (Q.out _))))
      refine wpQuiet_nil ?_
      intro w5 hb5
      have hs := hs.same hb5
      have kb := hs.k0
      have fb := hs.f0
      have hs := hs.setL 15 (.int .i64 d.fa)
      simp only [List.set_cons_zero, List.set_cons_succ] at hs
      have E2 := Lib.hid e2
      clear e e2
      go_wp2
      go_ret
      exact ⟨rfl, by unfold rdCells; rw [E2.out]; exact hs.b1.tail⟩
end
end Go.Proofs.Ytfgjanponijkhaa
