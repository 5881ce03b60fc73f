/- The reader of a node (package node): open and validate. -/
import Derived.Test.YtfgjanponijkhaaNodeA
namespace Go.Proofs.Ytfgjanponijkhaa
open Go.RowKit
set_option maxRecDepth 100000

section
variable {K : Know} {w : World} {F : List Comp} {b bm bc : Nat} {L : List Cel} {acc : Nat} {nx va : Value} {d : Cfg} {id : Int} {pg : Pg} {left : Nat} {th : Option FV} {word : Int}

def rdVal (b : Nat) : Option FV := some ⟨152, #[.pointer (some ⟨b, 0, none⟩)], #[]⟩
def rdOpen (b : Nat) : Option FV := some ⟨102, #[.pointer (some ⟨b, 0, none⟩)], #[]⟩
def rdHead (b : Nat) : Option FV := some ⟨164, #[.pointer (some ⟨b, 2, none⟩)], #[]⟩

set_option maxHeartbeats 1000000 in
theorem open_st {tv : Value} (hd : d.Ok) (hid : 0 ≤ id ∧ id < 18446744073709551616) (ha : acc ≤ 1000000000000) (hL : 0 ≤ (getC L (d.node id 0)).n ∧ (getC L (d.node id 0)).n < 18446744073709551616)
    (hs : St K w (blk b (.cells (rdCells nx d id pg va left tv word).toArray 161) :: memC bm bc L acc :: F)) :
    Calls Try.prog 102 #[.pointer (some ⟨b, 0, none⟩), .pointer (some ⟨bm, 0, none⟩)] w fun e w' =>
      e = .returned (stV (cond (ltChg (getC L (d.node id 0)).n) (rdOpen b) (rdHead b))) ∧
      St K w' (blk b (.cells (rdCells nx d id pg va left (cond (ltChg (getC L (d.node id 0)).n) tv (stV (rdVal b))) (getC L (d.node id 0)).n).toArray 161) :: memC bm bc L (acc + 1) :: F) := by
  obtain ⟨c, hc⟩ : ∃ c, c = getC L (d.node id 0) := ⟨_, rfl⟩
  have q0 := fun (w : World) (F : List Comp) (hs : St K w (memC bm bc L acc :: F)) => load_st (i := d.node id 0) hs ha
  rw [← hc] at q0 hL ⊢
  have Q0 := Lib.hid q0
  have Qc := Lib.hid (fun w => ltChanging_any c.n hL.1 hL.2 w)
  clear q0 hc
  have k := hs.k0
  unfold rdCells at k
  cases ho : ltChg c.n with
  | true =>
    rw [ho] at Qc
    simp only [cond_true]
    clear ho
    go_enter Try.func102, Try.ntmps102
    go_upto_region 1 with (fail)
    refine region_tail_move _ 12 rfl rfl (by kernel_rfl) (by as_aux_lemma => kernel_rfl) (fun _ _ _ _ h => h) ?_
    simp only [List.take_succ_cons, List.take_zero, List.drop_succ_cons, List.drop_zero, Act.put, List.setIfInBounds_toArray, List.set_cons_zero, List.set_cons_succ, Act.eval]
    repeat (go_big_quiet_step ((go_at_call 115; exact pure_of (latch_any d hd id hid.1 hid.2 _))))
    refine wpQuiet_nil ?_
    intro w5 hb5
    have hs := hs.same hb5
    clear k hb5
    go_wp2_with fail
    refine (Q0.out _ _ hs.b1).mono ?_
    clear hs
    rintro e w6 ⟨rfl, hs⟩
    have hs := hs.b1
    have k := hs.k0
    have kf := hs.f0
    unfold rdCells at k
    have hs := hs.setL 17 (.int .u64 c.n)
    simp only [rdCells, List.set_cons_zero, List.set_cons_succ] at hs
    go_wp2_with fail
    refine (Qc.out _).mono ?_
    rintro e w7 ⟨rfl, rfl⟩
    go_wp2
    go_ret
    exact ⟨rfl, hs⟩
  | false =>
    rw [ho] at Qc
    simp only [cond_false]
    clear ho
    have qb := fun w F (hs : St K w (blk b (.cells (rdCells nx d id pg va left tv c.n).toArray 161) :: F)) => begin_st (th := rdVal b) hs
    have Qb := Lib.hid qb
    clear qb
    go_enter Try.func102, Try.ntmps102
    go_upto_region 1 with (fail)
    refine region_tail_move _ 12 rfl rfl (by kernel_rfl) (by as_aux_lemma => kernel_rfl) (fun _ _ _ _ h => h) ?_
    simp only [List.take_succ_cons, List.take_zero, List.drop_succ_cons, List.drop_zero, Act.put, List.setIfInBounds_toArray, List.set_cons_zero, List.set_cons_succ, Act.eval]
    repeat (go_big_quiet_step ((go_at_call 115; exact pure_of (latch_any d hd id hid.1 hid.2 _))))
    refine wpQuiet_nil ?_
    intro w5 hb5
    have hs := hs.same hb5
    clear k hb5
    go_wp2_with fail
    refine (Q0.out _ _ hs.b1).mono ?_
    clear hs
    rintro e w6 ⟨rfl, hs⟩
    have hs := hs.b1
    have k := hs.k0
    have kf := hs.f0
    unfold rdCells at k
    have hs := hs.setL 17 (.int .u64 c.n)
    simp only [rdCells, List.set_cons_zero, List.set_cons_succ] at hs
    go_wp2_with fail
    refine (Qc.out _).mono ?_
    rintro e w7 ⟨rfl, rfl⟩
    go_wp2_with fail
    refine (Qb.out _ _ hs).mono ?_
    clear hs k kf
    rintro e w8 ⟨rfl, hs⟩
    go_wp2
    go_ret
    exact ⟨rfl, hs⟩

end
end Go.Proofs.Ytfgjanponijkhaa
