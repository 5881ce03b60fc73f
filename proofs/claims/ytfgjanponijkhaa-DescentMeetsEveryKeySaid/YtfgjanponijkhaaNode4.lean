/- The copier's slot (package node). -/
import Derived.Test.YtfgjanponijkhaaNodeA
import Derived.Test.YtfgjanponijkhaaTailA
import Derived.Test.YtfgjanponijkhaaApp
namespace Go.Proofs.Ytfgjanponijkhaa
open Go.RowKit
set_option maxRecDepth 100000

section
variable {K : Know} {w : World} {F : List Comp} {b bm bc : Nat} {L : List Cel} {acc : Nat} {nx va : Value} {d : Cfg} {id : Int} {pg : Pg} {left : Nat} {th : Option FV} {word : Int} {T : TypeId}

set_option maxHeartbeats 8000000 in
theorem slot_st (hd : d.Ok) (hid : 0 ≤ id ∧ id < 18446744073709551616) (ha : acc ≤ 1000000000000) (hn : pg.sl.length ≤ 1000000) (hl : 0 < left ∧ left ≤ 1000000)
    (hs : St K w (blk b (.cells (rdCells nx d id pg va left (stV th) word).toArray T) :: rowC va 132 2 (pg).sl.length (slRow (pg).sl) :: memC bm bc L acc :: F)) :
    Calls Try.prog 205 #[.pointer (some ⟨b, 2, none⟩), .pointer (some ⟨bm, 0, none⟩)] w fun e w' => ∃ va', e = .returned (stV (moreV b (left - 1) th)) ∧
      St K w' (blk b (.cells (rdCells nx d id (pg.push (getC L (d.slot id pg.sl.length))) va' (left - 1) (stV th) word).toArray T) :: rowC va' 132 2 ((pg.push (getC L (d.slot id pg.sl.length)))).sl.length (slRow ((pg.push (getC L (d.slot id pg.sl.length)))).sl) :: memC bm bc L (acc + 1) :: F) := by
  obtain ⟨c, hc⟩ : ∃ c, c = getC L (d.slot id pg.sl.length) := ⟨_, rfl⟩
  have q0 := fun (w : World) (F : List Comp) (hs : St K w (memC bm bc L acc :: F)) => load_st (i := d.slot id pg.sl.length) hs ha
  rw [← hc] at q0 ⊢
  have Q0 := Lib.hid q0
  obtain ⟨n, hnn⟩ : ∃ n, n = pg.sl.length := ⟨_, rfl⟩
  have hln : (pg.push c).sl.length = n + 1 := by unfold Pg.push; rw [List.length_append, hnn]; rfl
  have hrow : slRow (pg.push c).sl = slRow pg.sl ++ [.string c.k, .int .u64 c.n] := by unfold Pg.push slRow; rw [List.flatMap_append]; rfl
  obtain ⟨xs, hxs⟩ : ∃ xs, xs = slRow pg.sl := ⟨_, rfl⟩
  rw [hln, hrow]
  rw [← hnn] at hn hs Q0
  rw [← hxs] at hs ⊢
  obtain ⟨sa, capn, rfl, hcap, _⟩ := hs.b1.row_read
  have Qs := Lib.hid (fun w => slot_any d hd id n hid.1 hid.2 w)
  have epg : pg.push c = ⟨pg.lev, pg.sl ++ [⟨c.k, c.n⟩], pg.hi, pg.la, pg.ri⟩ := rfl
  rw [epg]
  rw [← hnn] at q0
  obtain ⟨lf, hlf⟩ : ∃ lf, left = lf + 1 := ⟨left - 1, by omega⟩
  subst hlf
  rw [show lf + 1 - 1 = lf by omega]
  obtain ⟨iv, hiv0, hiv1, hiv2, hiv3⟩ := info_parts infoSlot
  clear q0 hc hnn hln hrow hxs epg
  have k := hs.k0
  unfold rdCells at k
  have qm := fun w va F (hs : St K w (blk b (.cells (rdCells nx d id (Pg.mk pg.lev (pg.sl ++ [⟨c.k, c.n⟩]) pg.hi pg.la pg.ri) va lf (stV th) word).toArray T) :: F)) => more_st hs
  have Qm := Lib.hid qm
  clear qm
  go_enter Try.func205, Try.ntmps205
  go_upto_region 1 with (fail)
  go_cut [5] (fun v wx => ∃ bx, v = .pointer (some ⟨bx, 0, none⟩) ∧ St K wx (blk bx (.cells #[.int .u64 c.n, .string c.k, .int .u64 c.m] 41) :: memC bm bc L (acc + 1) :: blk b (.cells (rdCells nx d id pg (.slice sa n capn) (lf + 1) (stV th) word).toArray T) :: rowC (.slice sa n capn) 132 2 n xs :: F))
  case first =>
    as_aux_lemma =>
    have hs := hs.b2.b1
    have Hs := Lib.hid hs
    clear k hs hl
    refine region_alloc 16 ?_ 5 (.cells #[.int .u64 0, .string ⟨#[]⟩, .int .u64 0] 41) rfl (by as_aux_lemma => kernel_rfl) rfl (fun _ _ => by kernel_rfl) ?_ ?_ ?_
    case refine_2 =>
      intro W hb
      have hs := Hs.out.same hb
      have k := hs.k0
      unfold rdCells at k
      simp only [List.take_succ_cons, List.take_zero, List.drop_succ_cons, List.drop_zero]
      repeat (go_big_quiet_step ((go_at_call 121; exact pure_of (Qs.out _))))
      refine wpQuiet_nil ?_
      rfl
    case refine_3 =>
      intro w5 hb5
      have hs := Hs.out.same hb5
      go_wp2_with fail
      refine (Q0.out _ _ hs.b1).mono ?_
      clear hs
      rintro e w6 ⟨rfl, hs⟩
      have hs := hs.made (.cells #[.int .u64 c.n, .string c.k, .int .u64 c.m] 41)
      go_wp2
      go_meet
      exact ⟨_, rfl, hs⟩
    case refine_4 =>
      intro w0 w5 hb0 hb5
      have hs := ((Hs.out.same hb0).made (.cells #[.int .u64 0, .string ⟨#[]⟩, .int .u64 0] 41)).same (by rw [World.size_alloc]; exact hb5)
      go_wp2_with fail
      refine (Q0.out _ _ hs.b2).mono ?_
      clear hs
      rintro e w6 ⟨rfl, hs⟩
      have kx := hs.k1
      have fx := hs.f1
      have hs := ((hs.b1.setL 0 (.int .u64 c.n)).setL 1 (.string c.k)).setL 2 (.int .u64 c.m)
      go_wp2
      go_meet
      exact ⟨_, rfl, hs⟩
  case rest =>
    clear k hs
    obtain ⟨bx, rfl, hs⟩ := hcut
    have Hs := Lib.hid hs
    have hln : n ≤ 1000000 := hn
    clear hs hd hid ha hn
    cases hmv : moreV b lf th with
    | none =>
      rw [hmv] at Qm
      have Hmv := Lib.hid hmv
      clear hmv
      go_upto_region 2 with (fail)
      refine region_block_move _ 10 ?aS 34 (.cells #[.string c.k, .int .u64 c.n] 132) (fun W => .slice (some ⟨W.heap.size, 0, none⟩) 1 1) rfl rfl (by kernel_rfl) ?hB rfl (fun _ _ _ _ h => h) ?H ?hal ?Ah
      case H =>
        intro W hb
        have hs := Hs.out.same hb
        have kx := hs.k0
        have kb := hs.k2
        unfold rdCells at kb
        simp only [List.take_succ_cons, List.take_zero, List.drop_succ_cons, List.drop_zero, Act.put, List.setIfInBounds_toArray, List.set_cons_zero, List.set_cons_succ, Act.eval]
        repeat (go_big_quiet_step (fail))
        refine wpQuiet_nil ?_
        rfl
      case hB => as_aux_lemma => kernel_rfl
      case hal =>
        intro w'
        kernel_rfl
      case Ah =>
        intro w0 w5 hb0 hb5
        have hs := ((Hs.out.same hb0).made (.cells [.string c.k, .int .u64 c.n].toArray 132)).same (by rw [World.size_alloc]; exact hb5)
        have hk := hs.k0
        have Hn := Lib.hid (fun (j : Nat) (u : Value) (hu : [Value.string c.k, .int .u64 c.n][j]? = some u) => (show ∃ g off, (some ⟨w0.heap.size, 0, none⟩ : Option Addr) = some ⟨g, off, none⟩ ∧ w5.cell? ⟨g, off + j, none⟩ = some u from ⟨_, 0, rfl, by rw [Nat.zero_add, hk j]; simpa using hu⟩))
        clear hk
        have Hr := Lib.hid hs.b4
        clear hs
        simp only [List.drop_succ_cons, List.drop_zero]
        refine append_row_st _ _ 22 132 _ n 1 1 2 24 xs [.string c.k, .int .u64 c.n] (.agg #[.string ⟨#[]⟩, .int .u64 0]) iv (some ⟨w0.heap.size, 0, none⟩) Hr.out rfl rfl Try.underlying22 hiv0 hiv1 hiv2 hiv3 rfl (by decide) rfl rfl rfl (fun e => by cases e) Hn.out (fun u hu => by simp at hu; rcases hu with rfl | rfl <;> rfl) (by omega) (by decide) ?_
        clear Hr Hn
        intro v' w6 hs
        obtain ⟨ao, capo, rfl, _, _⟩ := hs.row_read
        have hs := hs.b4
        have kb := hs.k0
        have fb := hs.f0
        unfold rdCells at kb
        have hs := ((hs.setL 11 (.slice ao (n + 1) capo)).setL 15 (.int .i64 lf))
        simp only [rdCells, List.set_cons_zero, List.set_cons_succ] at hs
        go_wp2_with fail
        refine (Qm.out _ _ _ hs).mono ?_
        clear hs kb fb
        rintro e w7 ⟨he, hs⟩
        obtain rfl : e = .returned .nilFunc := he
        go_wp2
        go_ret
        exact ⟨_, by rw [Hmv.out]; rfl, hs.sub (.cons_cons _ (.cons_cons _ (.cons _ (.cons _ (List.Sublist.refl _)))))⟩
    | some o =>
      obtain ⟨f', x', y'⟩ := o
      rw [hmv] at Qm
      have Hmv := Lib.hid hmv
      clear hmv
      go_upto_region 2 with (fail)
      refine region_block_move _ 10 ?aS2 34 (.cells #[.string c.k, .int .u64 c.n] 132) (fun W => .slice (some ⟨W.heap.size, 0, none⟩) 1 1) rfl rfl (by kernel_rfl) ?hB2 rfl (fun _ _ _ _ h => h) ?H2 ?hal2 ?Ah2
      case H2 =>
        intro W hb
        have hs := Hs.out.same hb
        have kx := hs.k0
        have kb := hs.k2
        unfold rdCells at kb
        simp only [List.take_succ_cons, List.take_zero, List.drop_succ_cons, List.drop_zero, Act.put, List.setIfInBounds_toArray, List.set_cons_zero, List.set_cons_succ, Act.eval]
        repeat (go_big_quiet_step (fail))
        refine wpQuiet_nil ?_
        rfl
      case hB2 => as_aux_lemma => kernel_rfl
      case hal2 =>
        intro w'
        kernel_rfl
      case Ah2 =>
        intro w0 w5 hb0 hb5
        have hs := ((Hs.out.same hb0).made (.cells [.string c.k, .int .u64 c.n].toArray 132)).same (by rw [World.size_alloc]; exact hb5)
        have hk := hs.k0
        have Hn := Lib.hid (fun (j : Nat) (u : Value) (hu : [Value.string c.k, .int .u64 c.n][j]? = some u) => (show ∃ g off, (some ⟨w0.heap.size, 0, none⟩ : Option Addr) = some ⟨g, off, none⟩ ∧ w5.cell? ⟨g, off + j, none⟩ = some u from ⟨_, 0, rfl, by rw [Nat.zero_add, hk j]; simpa using hu⟩))
        clear hk
        have Hr := Lib.hid hs.b4
        clear hs
        simp only [List.drop_succ_cons, List.drop_zero]
        refine append_row_st _ _ 22 132 _ n 1 1 2 24 xs [.string c.k, .int .u64 c.n] (.agg #[.string ⟨#[]⟩, .int .u64 0]) iv (some ⟨w0.heap.size, 0, none⟩) Hr.out rfl rfl Try.underlying22 hiv0 hiv1 hiv2 hiv3 rfl (by decide) rfl rfl rfl (fun e => by cases e) Hn.out (fun u hu => by simp at hu; rcases hu with rfl | rfl <;> rfl) (by omega) (by decide) ?_
        clear Hr Hn
        intro v' w6 hs
        obtain ⟨ao, capo, rfl, _, _⟩ := hs.row_read
        have hs := hs.b4
        have kb := hs.k0
        have fb := hs.f0
        unfold rdCells at kb
        have hs := ((hs.setL 11 (.slice ao (n + 1) capo)).setL 15 (.int .i64 lf))
        simp only [rdCells, List.set_cons_zero, List.set_cons_succ] at hs
        go_wp2_with fail
        refine (Qm.out _ _ _ hs).mono ?_
        clear hs kb fb
        rintro e w7 ⟨he, hs⟩
        obtain rfl : e = .returned (.func (.func f') x' y') := he
        go_wp2
        go_ret
        exact ⟨_, by rw [Hmv.out]; rfl, hs.sub (.cons_cons _ (.cons_cons _ (.cons _ (.cons _ (List.Sublist.refl _)))))⟩
end
end Go.Proofs.Ytfgjanponijkhaa
