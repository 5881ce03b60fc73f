/- The reader of a node (package node): validate. -/
import Derived.Test.YtfgjanponijkhaaNode5
import Derived.Test.YtfgjanponijkhaaTailB
namespace Go.Proofs.Ytfgjanponijkhaa
open Go.RowKit
set_option maxRecDepth 100000

section
variable {K : Know} {w : World} {F : List Comp} {b bm bc : Nat} {L : List Cel} {acc : Nat} {nx va : Value} {d : Cfg} {id : Int} {pg : Pg} {left : Nat} {th : Option FV} {word : Int}

set_option maxHeartbeats 16000000 in
theorem validate_st {tv : Value} (hd : d.Ok) (hid : 0 ≤ id ∧ id < 18446744073709551616) (ha : acc ≤ 1000000000000) (hL : 0 ≤ (getC L (d.node id 0)).n ∧ (getC L (d.node id 0)).n < 18446744073709551616) (hw : 0 ≤ word ∧ word < 18446744073709551616)
    (hs : St K w (blk b (.cells (rdCells nx d id pg va left tv word).toArray 161) :: memC bm bc L acc :: F)) :
    Calls Try.prog 152 #[.pointer (some ⟨b, 0, none⟩), .pointer (some ⟨bm, 0, none⟩)] w fun e w' =>
      e = .returned (stV (cond (ltUnlock word == ltUnlock (getC L (d.node id 0)).n) none (rdOpen b))) ∧
      St K w' (blk b (.cells (rdCells nx d id pg va left tv word).toArray 161) :: memC bm bc L (acc + 1) :: F) := by
  obtain ⟨c, hc⟩ : ∃ c, c = getC L (d.node id 0) := ⟨_, rfl⟩
  have q0 := fun (w : World) (F : List Comp) (hs : St K w (memC bm bc L acc :: F)) => load_st (i := d.node id 0) hs ha
  rw [← hc] at q0 hL ⊢
  have Q0 := Lib.hid q0
  have qs := fun w => ltSame_any word hw.1 hw.2 c.n hL.1 hL.2 w
  obtain ⟨o, ho⟩ : ∃ o, o = (ltUnlock word == ltUnlock c.n) := ⟨_, rfl⟩
  rw [← ho] at qs ⊢
  have Qs := Lib.hid qs
  have Ql := Lib.hid (fun w => latch_any d hd id hid.1 hid.2 w)
  have k := hs.k0
  unfold rdCells at k
  clear q0 hc qs ho
  go_enter Try.func152, Try.ntmps152
  go_upto_region 1 with (fail)
  go_cut [24] (fun v wx => v = .bool (!o) ∧ St K wx (blk b (.cells (rdCells nx d id pg va left tv word).toArray 161) :: memC bm bc L (acc + 1) :: F))
  case first =>
    as_aux_lemma =>
    clear hL hw hd hid ha k
    refine region_effect 16 (.agg #[.int .u64 c.n, .string c.k, .int .u64 c.m]) (fun W => St K W (blk b (.cells (rdCells nx d id pg va left tv word).toArray 161) :: memC bm bc L (acc + 1) :: F)) ?_ (by kernel_rfl) rfl (by as_aux_lemma => kernel_rfl) ?_ ?_ ?_ ?_
    case refine_2 =>
      intro W hW
      have k : ∀ j, W.cell? ⟨b, j, none⟩ = (rdCells nx d id pg va left tv word).toArray[j]? := by
        rcases hW with hW | hW
        · exact (hs.same hW).k0
        · exact hW.k0
      unfold rdCells at k
      clear hW
      simp only [withV]
      repeat (go_big_quiet_step (first | (go_at_call 115; exact pure_of (Ql.out _)) | (go_at_call 181; exact pure_of_same (Qs.out _))))
      refine wpQuiet_nil ?_
      rfl
    case refine_3 => exact fun W W' h hb => h.same hb
    case refine_4 =>
      intro W hb
      exact ⟨151, #[.pointer (some ⟨bm, 0, none⟩), .int .i64 (d.node id 0)], by kernel_rfl, (Q0.out _ _ (hs.same hb).b1).mono fun e w2 ⟨he, h⟩ => ⟨he, h.b1⟩⟩
    case refine_5 =>
      intro W hs
      go_wp2
      go_meet
      exact ⟨rfl, hs⟩
  case rest =>
    clear hs k
    obtain ⟨rfl, hs⟩ := hcut
    cases o with
    | true =>
      go_wp2
      go_ret
      exact ⟨rfl, hs⟩
    | false =>
      go_wp2
      go_ret
      exact ⟨rfl, hs⟩
end
end Go.Proofs.Ytfgjanponijkhaa
