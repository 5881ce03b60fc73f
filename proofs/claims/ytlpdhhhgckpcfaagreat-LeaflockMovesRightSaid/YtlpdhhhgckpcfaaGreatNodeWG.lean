
/- NewWrite and NewFresh of pages whose slots lie anywhere: the part that holds them is X (Y), of which one knows only that the slots can be read. -/
import Derived.Test.YtlpdhhhgckpcfaaGreatNodeW
namespace Go.Proofs.YtlpdhhhgckpcfaaGreat
open Go.RowKit
set_option maxRecDepth 100000
/-- The slots of X can be read. -/
def Rdb (K : Know) (X : Comp) (a : Option Addr) (l : List Sl) : Prop := ∀ (W : World) (cs : List Comp), St K W (X :: cs) → SlAt W a l
section
variable {K : Know} {w : World} {F : List Comp} {pg : Pg} {a : Option Addr} {cap : Nat} {d : Cfg} {id : Int}
set_option maxHeartbeats 8000000 in
theorem cellsG_st {X : Comp} (hX : Rdb K X a pg.sl) (hd : d.Ok) (hid : 0 ≤ id ∧ id < 18446744073709551616) (hlev : 0 ≤ pg.lev ∧ pg.lev < 1000000) (hle : (pg.sl.length : Int) ≤ d.fa)
    (hs : St K w (X :: F)) :
    Calls Tryz.prog 89 #[.agg #[.int .i64 d.th, .int .i64 d.sn, .int .i64 d.no, .int .i64 d.ch, .int .i64 d.re, .int .i64 d.fa, .int .u64 d.cl], .int .u64 id, .agg #[.int .i64 (pg).lev, (.slice a pg.sl.length cap), .string (pg).hi, .bool (pg).la, .int .u64 (pg).ri]] w fun e w' => ∃ va, e = .returned va ∧
      St K w' (rowC va 139 4 (pgPts d id pg).length (ptRow (pgPts d id pg)) :: X :: F) := by
  obtain ⟨n, hn⟩ : ∃ n, n = pg.sl.length := ⟨_, rfl⟩
  have hfa := hd.fa2
  obtain ⟨iv, hiv0, hiv1, hiv2, hiv3⟩ := info_parts infoPut
  have Qs := Lib.hid (fun (i : Int) (w : World) => slot_any d hd id i hid.1 hid.2 w)
  have Qh := Lib.hid (fun (w : World) => high_any d hd id hid.1 hid.2 w)
  have Qr := Lib.hid (fun (w : World) => right_any d hd id hid.1 hid.2 w)
  have Q1 := Lib.hid (fun (w : World) => head_any d hd id hid.1 hid.2 w)
  obtain ⟨o, ho⟩ : ∃ o, o = pg.la := ⟨_, rfl⟩
  have hnl : n ≤ 100 := by omega
  have HX := Lib.hid hX
  clear hX
  rw [← hn]
  rw [← ho]
  have Hn := Lib.hid hn
  have Ho := Lib.hid ho
  clear hn ho hle
  have hs := (hs.made (.cells #[.int .i64 d.th, .int .i64 d.sn, .int .i64 d.no, .int .i64 d.ch, .int .i64 d.re, .int .i64 d.fa, .int .u64 d.cl] 29)).made (.cells #[.int .i64 pg.lev, .slice a n cap, .string pg.hi, .bool o, .int .u64 pg.ri] 43)
  rw [World.size_alloc] at hs
  have hs := hs.row_nil (T := 139) (size := 4)
  go_enter Tryz.func89, Tryz.ntmps89
  go_wp2
  go_loopw [14, 7] (fun v14 v7 wr => ∃ (k : Nat), k ≤ n ∧ v14 = .int .i64 k ∧ St K wr (rowC v7 139 4 k (ptRow (slPts d id 0 (pg.sl.take k))) :: blk (w.heap.size + 1) (.cells #[.int .i64 pg.lev, .slice a n cap, .string pg.hi, .bool o, .int .u64 pg.ri] 43) :: blk w.heap.size (.cells #[.int .i64 d.th, .int .i64 d.sn, .int .i64 d.no, .int .i64 d.ch, .int .i64 d.re, .int .i64 d.fa, .int .u64 d.cl] 29) :: X :: F)) (fun v _ _ => n - (intOf v).toNat)
  case atStart => exact ⟨0, by omega, rfl, hs⟩
  case round =>
    clear hs
    obtain ⟨k, hk, rfl, hs⟩ := hrel
    by_cases hlt : k < n
    · have hl' : k < pg.sl.length := by rw [← Hn.out]; exact hlt
      have hsl := HX.out _ _ hs.b3
      obtain ⟨b1, off1, rfl, _, c0, c1⟩ := hsl.2 k pg.sl[k] (List.getElem?_eq_getElem hl')
      have hnext : ptRow (slPts d id 0 (pg.sl.take (k + 1))) = ptRow (slPts d id 0 (pg.sl.take k)) ++ [.int .i64 (d.slot id (k : Int)), .int .u64 pg.sl[k].r, .string pg.sl[k].k, .int .u64 0] := by
        rw [List.take_succ_eq_append_getElem hl', slPts_snoc, ptRow_append, Nat.zero_add, List.length_take, Nat.min_eq_left (by omega)]
        rfl
      have Hx := Lib.hid hnext
      generalize pg.sl[k] = u at *
      generalize ptRow (slPts d id 0 (pg.sl.take k)) = xs at *
      have kl := hs.k2
      clear hl' hsl hnext
      obtain ⟨a7, c7, rfl, _, _⟩ := hs.row_read
      have hs := hs.made (.cells #[.string u.k, .int .u64 u.r] 69)
      go_upto_region 5 with (fail)
      refine wp_ck hs ?_
      clear hs c0 c1 kl
      intro W hs
      have Hs := Lib.hid hs
      clear hs
      refine region_block_move _ 10 ?aS 30 (.cells #[.int .i64 (d.slot id (k : Int)), .int .u64 u.r, .string u.k, .int .u64 0] 139) (fun W => .slice (some ⟨W.heap.size, 0, none⟩) 1 1) rfl rfl (by kernel_rfl) ?hB rfl (fun _ _ _ _ h => h) ?H ?hal ?Ah
      case H =>
        intro W2 hb
        have hs := Hs.out.same hb
        have kx := hs.k0
        have kl := hs.b3.k0
        simp only [List.take_succ_cons, List.take_zero, List.drop_succ_cons, List.drop_zero, Act.put, List.setIfInBounds_toArray, List.set_cons_zero, List.set_cons_succ, Act.eval]
        repeat (go_big_quiet_step ((go_at_call 127; exact pure_of (Qs.out _ _))))
        refine wpQuiet_nil ?_
        rfl
      case hB => as_aux_lemma => kernel_rfl
      case hal =>
        intro w'
        kernel_rfl
      case Ah =>
        intro w0 w5 hb0 hb5
        have hs := ((Hs.out.same hb0).made (.cells [.int .i64 (d.slot id (k : Int)), .int .u64 u.r, .string u.k, .int .u64 0].toArray 139)).same (by rw [World.size_alloc]; exact hb5)
        have hk := hs.k0
        have Hw := Lib.hid (fun (j : Nat) (x : Value) (hu : [Value.int .i64 (d.slot id (k : Int)), .int .u64 u.r, .string u.k, .int .u64 0][j]? = some x) => (show ∃ g off, (some ⟨w0.heap.size, 0, none⟩ : Option Addr) = some ⟨g, off, none⟩ ∧ w5.cell? ⟨g, off + j, none⟩ = some x from ⟨_, 0, rfl, by rw [Nat.zero_add, hk j]; simpa using hu⟩))
        clear hk
        have Hr := Lib.hid hs.b2
        clear hs
        simp only [List.drop_succ_cons, List.drop_zero]
        refine append_row_st _ _ 137 139 _ k 1 1 4 40 xs [.int .i64 (d.slot id (k : Int)), .int .u64 u.r, .string u.k, .int .u64 0] (.agg #[.int .i64 0, .int .u64 0, .string ⟨#[]⟩, .int .u64 0]) iv (some ⟨w0.heap.size, 0, none⟩) Hr.out rfl rfl Tryz.underlying137 hiv0 hiv1 hiv2 hiv3 rfl (by decide) rfl rfl rfl (fun e => by cases e) Hw.out (fun x hu => by simp at hu; rcases hu with rfl | rfl | rfl | rfl <;> rfl) (by omega) (by decide) ?_
        clear Hr Hw
        intro v' w6 hs
        rw [← Hx.out] at hs
        go_wp2
        go_roundw
        case rel => exact ⟨k + 1, by omega, by go_num, hs.drop1.drop1⟩
        case measure => simp [intOf]; omega
    · obtain rfl : k = n := by omega
      have htk : pg.sl.take k = pg.sl := List.take_of_length_le (by rw [← Hn.out]; exact Nat.le_refl _)
      rw [htk] at hs
      obtain ⟨xs, hxs⟩ : ∃ xs, xs = ptRow (slPts d id 0 pg.sl) := ⟨_, rfl⟩
      rw [← hxs] at hs
      have Hxs := Lib.hid hxs.symm
      clear hxs htk hlt hk
      have kp := hs.k1
      obtain ⟨a7, c7, rfl, _, _⟩ := hs.row_read
      have kq := fun (x : Obj) => (hs.made x).k2
      cases o with
      | true =>
        have hs := hs.made (.cells #[.int .u64 0, .string ⟨#[]⟩, .int .u64 1] 63)
        have hfin : ptRow (pgPts d id pg) = xs ++ [.int .i64 (d.node id 2), .int .u64 0, .string ⟨#[]⟩, .int .u64 1, .int .i64 (d.node id 3), .int .u64 pg.ri, .string ⟨#[]⟩, .int .u64 0, .int .i64 (d.node id 1), .int .u64 k, .string ⟨#[]⟩, .int .u64 pg.lev] ∧ (pgPts d id pg).length = k + 3 := by
          unfold pgPts hiCel
          rw [← Ho.out, ptRow_append, Hxs.out, ← Hn.out]
          exact ⟨rfl, by simp [slPts_length, ← Hn.out]⟩
        have Hf := Lib.hid hfin
        clear hfin
        go_upto_region 10 with (fail)
        refine wp_ck hs ?_
        clear hs kp kq
        intro W hs
        have Hs := Lib.hid hs
        clear hs
        refine region_block_move _ 24 ?aSt 64 (.cells [.int .i64 (d.node id 2), .int .u64 0, .string ⟨#[]⟩, .int .u64 1, .int .i64 (d.node id 3), .int .u64 pg.ri, .string ⟨#[]⟩, .int .u64 0, .int .i64 (d.node id 1), .int .u64 k, .string ⟨#[]⟩, .int .u64 pg.lev].toArray 139) (fun W => .slice (some ⟨W.heap.size, 0, none⟩) 3 3) rfl rfl (by kernel_rfl) ?hBt rfl (fun _ _ _ _ h => h) ?Ht ?halt ?Aht
        case Ht =>
          intro W2 hb
          have hs := Hs.out.same hb
          have kx := hs.k0
          have kp := hs.k2
          have kl := hs.b3.k0
          simp only [List.take_succ_cons, List.take_zero, List.drop_succ_cons, List.drop_zero, Act.put, List.setIfInBounds_toArray, List.set_cons_zero, List.set_cons_succ, Act.eval]
          repeat (go_big_quiet_step (first | (go_at_call 112; exact pure_of (Qh.out _)) | (go_at_call 128; exact pure_of (Qr.out _)) | (go_at_call 129; exact pure_of (Q1.out _))))
          refine wpQuiet_nil ?_
          rfl
        case hBt => as_aux_lemma => kernel_rfl
        case halt =>
          intro w'
          kernel_rfl
        case Aht =>
          intro w0 w5 hb0 hb5
          have hs := ((Hs.out.same hb0).made (.cells [.int .i64 (d.node id 2), .int .u64 0, .string ⟨#[]⟩, .int .u64 1, .int .i64 (d.node id 3), .int .u64 pg.ri, .string ⟨#[]⟩, .int .u64 0, .int .i64 (d.node id 1), .int .u64 k, .string ⟨#[]⟩, .int .u64 pg.lev].toArray 139)).same (by rw [World.size_alloc]; exact hb5)
          have hk := hs.k0
          have Hw := Lib.hid (fun (j : Nat) (x : Value) (hu : ([.int .i64 (d.node id 2), .int .u64 0, .string ⟨#[]⟩, .int .u64 1, .int .i64 (d.node id 3), .int .u64 pg.ri, .string ⟨#[]⟩, .int .u64 0, .int .i64 (d.node id 1), .int .u64 k, .string ⟨#[]⟩, .int .u64 pg.lev] : List Value)[j]? = some x) => (show ∃ g off, (some ⟨w0.heap.size, 0, none⟩ : Option Addr) = some ⟨g, off, none⟩ ∧ w5.cell? ⟨g, off + j, none⟩ = some x from ⟨_, 0, rfl, by rw [Nat.zero_add, hk j]; simpa using hu⟩))
          clear hk
          have Hr := Lib.hid hs.b2
          clear hs
          simp only [List.drop_succ_cons, List.drop_zero]
          refine append_row_st _ _ 137 139 _ k 3 3 4 40 xs [.int .i64 (d.node id 2), .int .u64 0, .string ⟨#[]⟩, .int .u64 1, .int .i64 (d.node id 3), .int .u64 pg.ri, .string ⟨#[]⟩, .int .u64 0, .int .i64 (d.node id 1), .int .u64 k, .string ⟨#[]⟩, .int .u64 pg.lev] (.agg #[.int .i64 0, .int .u64 0, .string ⟨#[]⟩, .int .u64 0]) iv (some ⟨w0.heap.size, 0, none⟩) Hr.out rfl rfl Tryz.underlying137 hiv0 hiv1 hiv2 hiv3 rfl (by decide) rfl rfl rfl (fun e => by cases e) Hw.out (fun x hu => by simp at hu; rcases hu with rfl | rfl | rfl | rfl | rfl | rfl | rfl | rfl | rfl | rfl | rfl | rfl <;> rfl) (by omega) (by decide) ?_
          clear Hr Hw
          intro v' w6 hs
          go_wp2
          go_ret
          exact ⟨_, rfl, by rw [Hf.out.1, Hf.out.2]; exact hs.drop1.drop1.drop1.drop1⟩
      | false =>
        have hs := hs.made (.cells #[.int .u64 0, .string pg.hi, .int .u64 0] 63)
        have hfin : ptRow (pgPts d id pg) = xs ++ [.int .i64 (d.node id 2), .int .u64 0, .string pg.hi, .int .u64 0, .int .i64 (d.node id 3), .int .u64 pg.ri, .string ⟨#[]⟩, .int .u64 0, .int .i64 (d.node id 1), .int .u64 k, .string ⟨#[]⟩, .int .u64 pg.lev] ∧ (pgPts d id pg).length = k + 3 := by
          unfold pgPts hiCel
          rw [← Ho.out, ptRow_append, Hxs.out, ← Hn.out]
          exact ⟨rfl, by simp [slPts_length, ← Hn.out]⟩
        have Hf := Lib.hid hfin
        clear hfin
        go_upto_region 10 with (fail)
        refine wp_ck hs ?_
        clear hs kp kq
        intro W hs
        have Hs := Lib.hid hs
        clear hs
        refine region_block_move _ 24 ?aSf 64 (.cells [.int .i64 (d.node id 2), .int .u64 0, .string pg.hi, .int .u64 0, .int .i64 (d.node id 3), .int .u64 pg.ri, .string ⟨#[]⟩, .int .u64 0, .int .i64 (d.node id 1), .int .u64 k, .string ⟨#[]⟩, .int .u64 pg.lev].toArray 139) (fun W => .slice (some ⟨W.heap.size, 0, none⟩) 3 3) rfl rfl (by kernel_rfl) ?hBf rfl (fun _ _ _ _ h => h) ?Hf ?half ?Ahf
        case Hf =>
          intro W2 hb
          have hs := Hs.out.same hb
          have kx := hs.k0
          have kp := hs.k2
          have kl := hs.b3.k0
          simp only [List.take_succ_cons, List.take_zero, List.drop_succ_cons, List.drop_zero, Act.put, List.setIfInBounds_toArray, List.set_cons_zero, List.set_cons_succ, Act.eval]
          repeat (go_big_quiet_step (first | (go_at_call 112; exact pure_of (Qh.out _)) | (go_at_call 128; exact pure_of (Qr.out _)) | (go_at_call 129; exact pure_of (Q1.out _))))
          refine wpQuiet_nil ?_
          rfl
        case hBf => as_aux_lemma => kernel_rfl
        case half =>
          intro w'
          kernel_rfl
        case Ahf =>
          intro w0 w5 hb0 hb5
          have hs := ((Hs.out.same hb0).made (.cells [.int .i64 (d.node id 2), .int .u64 0, .string pg.hi, .int .u64 0, .int .i64 (d.node id 3), .int .u64 pg.ri, .string ⟨#[]⟩, .int .u64 0, .int .i64 (d.node id 1), .int .u64 k, .string ⟨#[]⟩, .int .u64 pg.lev].toArray 139)).same (by rw [World.size_alloc]; exact hb5)
          have hk := hs.k0
          have Hw := Lib.hid (fun (j : Nat) (x : Value) (hu : ([.int .i64 (d.node id 2), .int .u64 0, .string pg.hi, .int .u64 0, .int .i64 (d.node id 3), .int .u64 pg.ri, .string ⟨#[]⟩, .int .u64 0, .int .i64 (d.node id 1), .int .u64 k, .string ⟨#[]⟩, .int .u64 pg.lev] : List Value)[j]? = some x) => (show ∃ g off, (some ⟨w0.heap.size, 0, none⟩ : Option Addr) = some ⟨g, off, none⟩ ∧ w5.cell? ⟨g, off + j, none⟩ = some x from ⟨_, 0, rfl, by rw [Nat.zero_add, hk j]; simpa using hu⟩))
          clear hk
          have Hr := Lib.hid hs.b2
          clear hs
          simp only [List.drop_succ_cons, List.drop_zero]
          refine append_row_st _ _ 137 139 _ k 3 3 4 40 xs [.int .i64 (d.node id 2), .int .u64 0, .string pg.hi, .int .u64 0, .int .i64 (d.node id 3), .int .u64 pg.ri, .string ⟨#[]⟩, .int .u64 0, .int .i64 (d.node id 1), .int .u64 k, .string ⟨#[]⟩, .int .u64 pg.lev] (.agg #[.int .i64 0, .int .u64 0, .string ⟨#[]⟩, .int .u64 0]) iv (some ⟨w0.heap.size, 0, none⟩) Hr.out rfl rfl Tryz.underlying137 hiv0 hiv1 hiv2 hiv3 rfl (by decide) rfl rfl rfl (fun e => by cases e) Hw.out (fun x hu => by simp at hu; rcases hu with rfl | rfl | rfl | rfl | rfl | rfl | rfl | rfl | rfl | rfl | rfl | rfl <;> rfl) (by omega) (by decide) ?_
          clear Hr Hw
          intro v' w6 hs
          go_wp2
          go_ret
          exact ⟨_, rfl, by rw [Hf.out.1, Hf.out.2]; exact hs.drop1.drop1.drop1.drop1⟩
end
section
variable {K : Know} {W : World} {REST : List Comp} {id word2 : Int} {y : Pg} {a11 ay : Option Addr} {c11 n cy : Nat} {xs lit : List Value} {ρ : Nat → Option Value} {v v5 v6 v11 v12 v13 v14 v15 : Value}
theorem NwR.e11G {Y : Comp} (h : NwR K (Y :: REST) id word2 y a11 c11 n xs lit ρ W) (h11 : ρ 11 = none) (h12 : ρ 12 = none) (h13 : ρ 13 = none) : ∃ (R' : List Comp), St K W (Y :: R') ∧
    ∀ va W', St K W' (rowC va 69 2 y.sl.length (slRow y.sl) :: Y :: R') → NwR K (Y :: REST) id word2 y a11 c11 n xs lit (upd ρ 11 (.agg #[.int .i64 (y).lev, va, .string (y).hi, .bool (y).la, .int .u64 (y).ri])) W' := by
  obtain ⟨b5, a6, c6, aV, cV, b13, bw, e1, e2, e3, e4, e5, e6, e7, e8, hs⟩ := h
  rw [h11, h13] at hs
  refine ⟨_, hs.b5, fun va W' hs' => ?_⟩
  obtain ⟨a', c', rfl, _, _⟩ := hs'.row_read
  refine ⟨b5, a6, c6, a', c', b13, bw, e1, e2, fun v hv => (Option.some.inj hv).symm, fun v hv => ?_, e5, e6, e7, e8, ?_⟩
  · have : ρ 12 = some v := hv
    rw [h12] at this; cases this
  · show St K W' (optC (ρ 5) _ :: rowP (ρ 6) _ _ :: slC _ _ :: optC (ρ 13) _ :: optC (ρ 15) _ :: _)
    rw [h13]
    exact hs'.b4.tail.b1.u5.u2
end
section
variable {K : Know} {w : World} {F : List Comp} {x y : Pg} {ax ay : Option Addr} {cx cy : Nat} {d : Cfg} {id word : Int}
set_option maxHeartbeats 8000000 in
theorem newWriteG_st {X Y : Comp} (hX : Rdb K X ax x.sl) (hY : Rdb K Y ay y.sl) (hd : d.Ok) (h1 : 1 ≤ id) (h2 : id ≤ d.no) (hw : 0 ≤ word ∧ word < 18446744073709551616) (pox : PgOk d x) (poy : PgOk d y) (lx : 0 ≤ x.lev ∧ x.lev < 1000000) (ly : 0 ≤ y.lev ∧ y.lev < 1000000)
    (hs : St K w (X :: Y :: F)) :
    Calls Tryz.prog 39 #[.agg #[.int .i64 d.th, .int .i64 d.sn, .int .i64 d.no, .int .i64 d.ch, .int .i64 d.re, .int .i64 d.fa, .int .u64 d.cl], .agg #[.int .u64 id, .int .u64 word, .int .i64 (x).lev, (.slice ax x.sl.length cx), .string (x).hi, .bool (x).la, .int .u64 (x).ri], .agg #[.int .i64 (y).lev, (.slice ay y.sl.length cy), .string (y).hi, .bool (y).la, .int .u64 (y).ri]] w fun e w' => ∃ (bw b g cap : Nat) (va : Value) (mid ps : List Pt), e = .returned (.pointer (some ⟨bw, 0, none⟩)) ∧
      Newer (pgPts d id x) (pgPts d id y) mid ∧ ps = ⟨d.node id 0, ⟨ltBegin word, ⟨#[]⟩, 0⟩⟩ :: mid ++ [⟨d.node id 0, ⟨ltEnd (ltBegin word), ⟨#[]⟩, 0⟩⟩] ∧
      St K w' (wrC b id (ltEnd (ltBegin word)) y va g cap ps 0 :: rowC (.slice (some ⟨g, 0, none⟩) ps.length cap) 139 4 ps.length (ptRow ps) :: blk bw (.cells #[.pointer (some ⟨b, 0, none⟩)] 147) :: slC va y :: X :: Y :: F) := by
  have HX := Lib.hid hX
  have HY := Lib.hid hY
  have f1 := hd.fa1
  have f2 := hd.fa2
  have hno := hd.no2
  have hid : 0 ≤ id ∧ id < 18446744073709551616 := by omega
  have hb1 := ltBegin_bd hw.1 hw.2
  have okx := pgPts_ok hd h1 h2 pox lx
  have oky := pgPts_ok hd h1 h2 poy ly
  have lenx : (pgPts d id x).length = x.sl.length + 3 := by simp [pgPts, slPts_length]
  have leny : (pgPts d id y).length = y.sl.length + 3 := by simp [pgPts, slPts_length]
  have qx := fun w F (hs : St K w (X :: F)) => cellsG_st hX (cap := cx) (pg := x) hd hid lx pox.le hs
  have qy := fun w F (hs : St K w (Y :: F)) => cellsG_st hY (cap := cy) (pg := y) hd hid ly poy.le hs
  obtain ⟨px, hpx⟩ : ∃ px, px = pgPts d id x := ⟨_, rfl⟩
  obtain ⟨py, hpy⟩ : ∃ py, py = pgPts d id y := ⟨_, rfl⟩
  rw [← hpx] at okx lenx qx ⊢
  rw [← hpy] at oky leny qy ⊢
  obtain ⟨fst, hfst⟩ : ∃ fst : Pt, fst = ⟨d.node id 0, ⟨ltBegin word, ⟨#[]⟩, 0⟩⟩ := ⟨_, rfl⟩
  obtain ⟨lst, hlst⟩ : ∃ lst : Pt, lst = ⟨d.node id 0, ⟨ltEnd (ltBegin word), ⟨#[]⟩, 0⟩⟩ := ⟨_, rfl⟩
  rw [← hfst, ← hlst]
  have Hfst := Lib.hid hfst
  have Hlst := Lib.hid hlst
  clear hfst hlst
  have hlx := pox.le
  have hly := poy.le
  have Qx := Lib.hid qx
  have Qy := Lib.hid qy
  have Okx := Lib.hid okx
  have Oky := Lib.hid oky
  have Qa := Lib.hid (fun w => latch_any d hd id hid.1 hid.2 w)
  have Qb := Lib.hid (fun w => ltBegin_any word hw.1 hw.2 w)
  have Qe := Lib.hid (fun w => ltEnd_any (ltBegin word) hb1.1 hb1.2 w)
  have nx : px.length ≤ 40 := by omega
  have ny : py.length ≤ 40 := by omega
  clear qx qy okx oky hpx hpy lenx leny hno pox lx ly
  have hs := ((hs.made (.cells #[.int .i64 d.th, .int .i64 d.sn, .int .i64 d.no, .int .i64 d.ch, .int .i64 d.re, .int .i64 d.fa, .int .u64 d.cl] 29)).made (.cells #[.int .u64 id, .int .u64 word, .int .i64 (x).lev, (.slice ax x.sl.length cx), .string (x).hi, .bool (x).la, .int .u64 (x).ri] 45)).made (.cells #[.int .i64 (y).lev, (.slice ay y.sl.length cy), .string (y).hi, .bool (y).la, .int .u64 (y).ri] 43)
  have hs := hs.ptMap_made
  simp only [World.size_alloc] at hs
  obtain ⟨b0, hb0⟩ : ∃ b0, b0 = w.heap.size := ⟨_, rfl⟩
  go_enter Tryz.func39, Tryz.ntmps39
  go_upto_region 2 with (fail)
  rw [← hb0] at hs ⊢
  refine wp_ck hs ?_
  clear hs hb0
  intro W hs
  have kh := hs.k2
  have kl := hs.b3.k0
  go_wp2_with fail
  refine (Qx.out _ _ hs.b4).mono ?_
  clear hs kh kl
  rintro e w1 ⟨vx, rfl, hs⟩
  obtain ⟨apx, cpx, rfl, _, _⟩ := hs.row_read
  have hs := hs.b2
  go_wp2
  go_loopw [23] (fun v23 wr => ∃ k : Nat, k ≤ px.length ∧ v23 = .int .i64 k ∧ St K wr (ptMap (b0 + 1 + 1 + 1) (px.take k).reverse :: rowC (.slice apx px.length cpx) 139 4 px.length (ptRow px) :: X ::
    blk (b0 + 1 + 1) (.cells #[.int .i64 (y).lev, (.slice ay y.sl.length cy), .string (y).hi, .bool (y).la, .int .u64 (y).ri] 43) :: blk (b0 + 1) (.cells #[.int .u64 id, .int .u64 word, .int .i64 (x).lev, (.slice ax x.sl.length cx), .string (x).hi, .bool (x).la, .int .u64 (x).ri] 45) :: blk b0 (.cells #[.int .i64 d.th, .int .i64 d.sn, .int .i64 d.no, .int .i64 d.ch, .int .i64 d.re, .int .i64 d.fa, .int .u64 d.cl] 29) :: Y :: F)) (fun v _ => px.length - (intOf v).toNat)
  case atStart => exact ⟨0, by omega, rfl, hs⟩
  case round =>
    clear hs
    obtain ⟨k, hk, rfl, hs⟩ := hrel
    by_cases hlt : k < px.length
    · obtain ⟨u, hu⟩ : ∃ u, px[k]? = some u := ⟨_, List.getElem?_eq_getElem hlt⟩
      obtain ⟨r0, r1, r2, r3⟩ := ptRow_at px k u hu
      obtain ⟨g, rfl, c0⟩ := hs.b1.row_at r0
      have c1 := hs.b1.row_cell r1
      have c2 := hs.b1.row_cell r2
      have c3 := hs.b1.row_cell r3
      have okp : PtOk u := Okx.out u (List.mem_of_getElem? hu)
      have hnext : u :: (px.take k).reverse = (px.take (k + 1)).reverse := by
        rw [List.getElem?_eq_getElem hlt] at hu
        rw [List.take_succ_eq_append_getElem hlt, Option.some.inj hu]
        simp
      have hlen : (px.take k).reverse.length < 1000000 := by simp; omega
      have Hs := Lib.hid (hs.pass (.cells #[.int .i64 u.i, .int .u64 u.c.n, .string u.c.k, .int .u64 u.c.m] 139))
      have Hx := Lib.hid hnext
      clear hs hu r0 r1 r2 r3 hnext
      go_wp2_with (at_mapUpdate; refine wpList_ptPut Hs.out okp hlen rfl _ _ _ rfl rfl rfl rfl ?_)
      clear Hs c0 c1 c2 c3
      intro w2 hs
      rw [Hx.out] at hs
      go_wp2
      go_roundw
      case rel => exact ⟨k + 1, by omega, by go_num, hs⟩
      case measure => simp [intOf]; omega
    · obtain rfl : k = px.length := by omega
      rw [List.take_length] at hs
      clear hlt hk
      have kh := hs.b4.k0
      have kl := hs.b5.k0
      go_wp2_with fail
      refine (calls_same hs (Qa.out _)).mono ?_
      clear hs kh kl
      rintro e w2 ⟨rfl, hs⟩
      have kh := hs.b4.k0
      go_wp2_with fail
      refine (calls_id hs (Qb.out _)).mono ?_
      clear hs kh
      rintro e w3 ⟨rfl, hs⟩
      have hs := hs.made (.cells #[.int .i64 (d.node id 0), .int .u64 (ltBegin word), .string ⟨#[]⟩, .int .u64 0] 139)
      have hs := hs.row_lit (n := 1) (size := 4) rfl (by simp [maxLen])
      go_upto_region 9 with (fail)
      refine wp_ck hs ?_
      generalize w3.heap.size = b1
      clear hs
      intro W3 hs
      have kh := hs.b5.k0
      have kl := hs.b6.k0
      have ky := hs.b4.k0
      obtain ⟨iv, hiv0, hiv1, hiv2, hiv3⟩ := info_parts infoPut
      have hs := hs.b2.tail
      go_wp2_with fail
      refine (Qy.out _ _ hs.b6).mono ?_
      clear hs kh kl ky
      rintro e w4 ⟨vy, rfl, hs⟩
      obtain ⟨apy, cpy, rfl, _, _⟩ := hs.row_read
      have hs := hs.b1.b4.b2.b4.b4
      have hrow : [Value.int .i64 (d.node id 0), .int .u64 (ltBegin word), .string ⟨#[]⟩, .int .u64 0] = ptRow [fst] := by rw [Hfst.out]; rfl
      rw [hrow] at hs
      clear hrow Hfst
      go_wp2
      go_loopw [47, 11] (fun v47 v11 wr => ∃ (k : Nat) (mid : List Pt), k ≤ py.length ∧ v47 = .int .i64 k ∧ mid.length ≤ k ∧ Newer px (py.take k) mid ∧
        St K wr (rowC v11 139 4 (mid.length + 1) (ptRow (fst :: mid)) :: ptMap (b0 + 1 + 1 + 1) px.reverse :: rowC (.slice apy py.length cpy) 139 4 py.length (ptRow py) :: X :: Y ::
        blk (b0 + 1 + 1) (.cells #[.int .i64 (y).lev, (.slice ay y.sl.length cy), .string (y).hi, .bool (y).la, .int .u64 (y).ri] 43) :: blk (b0 + 1) (.cells #[.int .u64 id, .int .u64 word, .int .i64 (x).lev, (.slice ax x.sl.length cx), .string (x).hi, .bool (x).la, .int .u64 (x).ri] 45) :: blk b0 (.cells #[.int .i64 d.th, .int .i64 d.sn, .int .i64 d.no, .int .i64 d.ch, .int .i64 d.re, .int .i64 d.fa, .int .u64 d.cl] 29) :: F)) (fun v _ _ => py.length - (intOf v).toNat)
      case atStart => exact ⟨0, [], by omega, rfl, by simp, Newer.nil _, hs⟩
      case round =>
        clear hs
        obtain ⟨k, mid, hk, rfl, hmid, hnew, hs⟩ := hrel
        by_cases hlt : k < py.length
        · obtain ⟨u, hu⟩ : ∃ u, py[k]? = some u := ⟨_, List.getElem?_eq_getElem hlt⟩
          obtain ⟨r0, r1, r2, r3⟩ := ptRow_at py k u hu
          obtain ⟨g, rfl, c0⟩ := hs.b2.row_at r0
          have c1 := hs.b2.row_cell r1
          have c2 := hs.b2.row_cell r2
          have c3 := hs.b2.row_cell r3
          have oku : PtOk u := Oky.out u (List.mem_of_getElem? hu)
          have htk : py.take (k + 1) = py.take k ++ [u] := by
            rw [List.getElem?_eq_getElem hlt] at hu
            rw [List.take_succ_eq_append_getElem hlt, Option.some.inj hu]
          obtain ⟨a11, c11, rfl, _, _⟩ := hs.row_read
          have hs := hs.made (.cells #[.int .i64 u.i, .int .u64 u.c.n, .string u.c.k, .int .u64 u.c.m] 139)
          obtain ⟨xb, hlook, hxb⟩ := hs.b2.ptMap_look oku
          unfold ptV at hlook
          have Hnew := Lib.hid hnew
          have Htk := Lib.hid htk
          clear hu r0 r1 r2 r3 hnew htk oku
          cases xb with
          | true =>
            have hin : u ∈ px := by simpa using hxb.1 rfl
            have Hin := Lib.hid hin
            clear hxb hin
            go_wp2
            go_roundw
            case rel => exact ⟨k + 1, mid, by omega, by go_num, by omega, by rw [Htk.out]; exact Hnew.out.skip Hin.out, hs.tail⟩
            case measure => simp [intOf]; omega
          | false =>
            clear hxb
            obtain ⟨xs, hxs⟩ : ∃ xs, xs = ptRow (fst :: mid) := ⟨_, rfl⟩
            have hnext : ptRow (fst :: (mid ++ [u])) = xs ++ [.int .i64 u.i, .int .u64 u.c.n, .string u.c.k, .int .u64 u.c.m] := by
              rw [hxs, show fst :: (mid ++ [u]) = (fst :: mid) ++ [u] from rfl, ptRow_append]
              rfl
            rw [← hxs] at hs
            have Hx := Lib.hid hnext
            have hs := hs.made (.cells [.int .i64 u.i, .int .u64 u.c.n, .string u.c.k, .int .u64 u.c.m].toArray 139)
            have hkk := hs.k0
            rw [World.size_alloc] at hs hkk
            have Hw := Lib.hid (lit_cells hkk)
            have Hr := Lib.hid hs.b2
            clear hs hkk hnext hxs
            go_wp2_with (at_builtin; refine append_row_st _ _ 137 139 _ (mid.length + 1) 1 1 4 40 xs [.int .i64 u.i, .int .u64 u.c.n, .string u.c.k, .int .u64 u.c.m] (.agg #[.int .i64 0, .int .u64 0, .string ⟨#[]⟩, .int .u64 0]) iv (some ⟨wr.heap.size + 1, 0, none⟩) Hr.out rfl rfl Tryz.underlying137 hiv0 hiv1 hiv2 hiv3 rfl (by decide) rfl rfl rfl (fun e => by cases e) Hw.out (fun x hu => by simp at hu; rcases hu with rfl | rfl | rfl | rfl <;> rfl) (by omega) (by decide) ?_)
            clear Hr Hw hlook c0 c1 c2 c3
            intro v' w6 hs
            rw [← Hx.out] at hs
            go_wp2
            go_roundw
            case rel => exact ⟨k + 1, mid ++ [u], by omega, by go_num, by simp; omega, by rw [Htk.out]; exact Hnew.out.take, by simpa using hs.drop1.drop1⟩
            case measure => simp [intOf]; omega
        · obtain rfl : k = py.length := by omega
          rw [List.take_length] at hnew
          have Hnew := Lib.hid hnew
          clear hlt hk hnew
          obtain ⟨a11, c11, rfl, _, _⟩ := hs.row_read
          have kh := hs.b6.k0
          go_wp2_with fail
          refine (calls_id hs (Qb.out _)).mono ?_
          clear hs kh
          rintro e w7 ⟨rfl, hs⟩
          go_wp2_with fail
          refine (calls_id hs (Qe.out _)).mono ?_
          clear hs
          rintro e w8 ⟨rfl, hs⟩
          have hs := hs.drop1.drop1.b5.tail.b2.b1
          obtain ⟨word2, hword2⟩ : ∃ z, z = ltEnd (ltBegin word) := ⟨_, rfl⟩
          obtain ⟨xs, hxs⟩ : ∃ xs, xs = ptRow (fst :: mid) := ⟨_, rfl⟩
          rw [← hxs] at hs
          have Hxs := Lib.hid hxs
          clear hxs
          clear hword2
          go_upto_region 16 with (fail)
          refine wp_ck hs ?_
          clear hs
          intro W hs
          have Hs := Lib.hid hs
          clear hs
          refine region_effects [false, false, false, false, false, true, true, false, false, false, false, true, true, true, true, true, true] [5, 6, 11, 12, 13, 14, 15, 16] (fun | 6 => [5] | 12 => [11] | 13 => [6, 12] | 14 => [13] | 15 => [14] | 16 => [15] | _ => [])
            (NwR K (Y :: X :: blk (b0 + 1 + 1) (.cells #[.int .i64 (y).lev, (.slice ay y.sl.length cy), .string (y).hi, .bool (y).la, .int .u64 (y).ri] 43) :: blk (b0 + 1) (.cells #[.int .u64 id, .int .u64 word, .int .i64 (x).lev, (.slice ax x.sl.length cx), .string (x).hi, .bool (x).la, .int .u64 (x).ri] 45) :: F) id (ltEnd (ltBegin word)) y a11 c11 (mid.length + 1) xs [.int .i64 (d.node id 0), .int .u64 (ltEnd (ltBegin word)), .string ⟨#[]⟩, .int .u64 0])
            (fun W => (∀ k, W.cell? ⟨b0 + 1 + 1, k, none⟩ = (#[.int .i64 (y).lev, (.slice ay y.sl.length cy), .string (y).hi, .bool (y).la, .int .u64 (y).ri] : Array Value)[k]?) ∧ (∀ k, W.cell? ⟨b0 + 1, k, none⟩ = (#[.int .u64 id, .int .u64 word, .int .i64 (x).lev, (.slice ax x.sl.length cx), .string (x).hi, .bool (x).la, .int .u64 (x).ri] : Array Value)[k]?)) ?aS (by kernel_rfl) ?hB ?H ?haS ?h0 ?hI ?hR ?hE ?hQ
          case hB => as_aux_lemma => kernel_rfl
          case H =>
            rintro W2 ⟨k1, k2⟩
            simp only [withM]
            repeat (go_big_quiet_step (fail))
            refine wpQuiet_nil ?_
            rfl
          case haS => rfl
          case h0 => exact NwR.start Hs.out
          case hI =>
            intro ρ W2 h
            exact ⟨h.rest.k2, h.rest.b3.k0⟩
          case hR => exact fun ρ W2 W3 h hb => h.same hb
          case hE =>
            refine ⟨?e5, ?e6, ?e11, ?e12, ?e13, ?e14, ?e15, ?e16, trivial⟩
            case e5 =>
              intro o ho ρ W2 h hcl h5 hd af haf
              obtain rfl := Option.some.inj ho
              simp only [fillD] at haf
              subst haf
              go_wp2
              exact ⟨rfl, _, rfl, h.e5 h5⟩
            case e6 =>
              intro o ho ρ W2 h hcl h6 hd af haf
              obtain rfl := Option.some.inj ho
              replace haf : af = fillD _ ρ [5] _ := haf
              obtain ⟨v5, h5⟩ := Option.isSome_iff_exists.1 (hd 5 (by show _ ∈ [5]; simp))
              have h13 : ρ 13 = none := hcl.none (by simp) (show 6 ∈ [6, 12] by simp) h6
              obtain ⟨b5, R', rfl, hs, hnext⟩ := h.e6 h5 h6 h13
              simp only [fillD, h5, Option.getD_some, dstAt, List.getElem?_cons_succ, List.getElem?_cons_zero, Option.bind_some, Act.put, List.setIfInBounds_toArray, List.set_cons_zero, List.set_cons_succ] at haf
              subst haf
              refine append_row_st _ _ 137 139 _ (mid.length + 1) 1 1 4 40 xs [.int .i64 (d.node id 0), .int .u64 (ltEnd (ltBegin word)), .string ⟨#[]⟩, .int .u64 0] (.agg #[.int .i64 0, .int .u64 0, .string ⟨#[]⟩, .int .u64 0]) iv (some ⟨b5, 0, none⟩) hs rfl rfl Tryz.underlying137 hiv0 hiv1 hiv2 hiv3 rfl (by decide) rfl rfl rfl (fun e => by cases e) (lit_cells hs.k1) (fun x hu => by simp at hu; rcases hu with rfl | rfl | rfl | rfl <;> rfl) (by omega) (by decide) ?_
              intro v' w' hs'
              exact ⟨rfl, _, rfl, hnext v' w' hs'⟩
            case e11 =>
              intro o ho ρ W2 h hcl h11 hd af haf
              obtain rfl := Option.some.inj ho
              replace haf : af = fillD _ ρ [] _ := haf
              have h12 : ρ 12 = none := hcl.none (by simp) (show 11 ∈ [11] by simp) h11
              have h13 : ρ 13 = none := hcl.none (by simp) (show 12 ∈ [6, 12] by simp) h12
              obtain ⟨R', hs, hnext⟩ := h.e11G h11 h12 h13
              simp only [fillD] at haf
              subst haf
              go_wp2_with fail
              refine (clone_st (cap := cy) hs (HY.out _ _ hs)).mono ?_
              rintro e W3 ⟨va, rfl, hs'⟩
              go_wp2
              exact ⟨rfl, _, rfl, hnext va W3 hs'⟩
            case e12 =>
              intro o ho ρ W2 h hcl h12 hd af haf
              obtain rfl := Option.some.inj ho
              replace haf : af = fillD _ ρ [11] _ := haf
              obtain ⟨v11, h11⟩ := Option.isSome_iff_exists.1 (hd 11 (by show _ ∈ [11]; simp))
              obtain ⟨aV, cV, rfl, hn⟩ := h.e12 h11
              simp only [fillD, h11, Option.getD_some, dstAt, List.getElem?_cons_succ, List.getElem?_cons_zero, Option.bind_some, Act.put, List.setIfInBounds_toArray, List.set_cons_zero, List.set_cons_succ] at haf
              subst haf
              go_wp2
              exact ⟨rfl, _, rfl, hn⟩
            case e13 =>
              intro o ho ρ W2 h hcl h13 hd af haf
              obtain rfl := Option.some.inj ho
              replace haf : af = fillD _ ρ [6, 12] _ := haf
              obtain ⟨v6, h6⟩ := Option.isSome_iff_exists.1 (hd 6 (by show _ ∈ [6, 12]; simp))
              obtain ⟨v12, h12⟩ := Option.isSome_iff_exists.1 (hd 12 (by show _ ∈ [6, 12]; simp))
              have h14 : ρ 14 = none := hcl.none (by simp) (show 13 ∈ [13] by simp) h13
              have h15 : ρ 15 = none := hcl.none (by simp) (show 14 ∈ [14] by simp) h14
              obtain ⟨a6, c6, aV, cV, R', rfl, rfl, hs, hnext⟩ := h.e13 h6 h12 h13 h14 h15
              simp only [fillD, h6, h12, Option.getD_some, dstAt, List.getElem?_cons_succ, List.getElem?_cons_zero, Option.bind_some, Act.put, List.setIfInBounds_toArray, List.set_cons_zero, List.set_cons_succ] at haf
              subst haf
              go_wp2_with fail
              refine (newWriter_st hs).mono ?_
              rintro e W3 ⟨b, rfl, hs'⟩
              go_wp2
              exact ⟨rfl, _, rfl, hnext b W3 hs'⟩
            case e14 =>
              intro o ho ρ W2 h hcl h14 hd af haf
              obtain rfl := Option.some.inj ho
              replace haf : af = fillD _ ρ [13] _ := haf
              obtain ⟨v13, h13⟩ := Option.isSome_iff_exists.1 (hd 13 (by show _ ∈ [13]; simp))
              obtain ⟨b, rfl, hn⟩ := h.e14 h13
              simp only [fillD, h13, Option.getD_some, dstAt, List.getElem?_cons_succ, List.getElem?_cons_zero, Option.bind_some, Act.put, List.setIfInBounds_toArray, List.set_cons_zero, List.set_cons_succ] at haf
              subst haf
              go_wp2
              exact ⟨rfl, _, rfl, hn⟩
            case e15 =>
              intro o ho ρ W2 h hcl h15 hd af haf
              obtain rfl := Option.some.inj ho
              replace haf : af = fillD _ ρ [14] _ := haf
              obtain ⟨v14, h14⟩ := Option.isSome_iff_exists.1 (hd 14 (by show _ ∈ [14]; simp))
              have h16 : ρ 16 = none := hcl.none (by simp) (show 15 ∈ [15] by simp) h15
              obtain ⟨b, rfl, hn⟩ := h.e15 h14 h15 h16
              simp only [fillD, h14, Option.getD_some, dstAt, List.getElem?_cons_succ, List.getElem?_cons_zero, Option.bind_some, Act.put, List.setIfInBounds_toArray, List.set_cons_zero, List.set_cons_succ] at haf
              subst haf
              go_wp2
              exact ⟨rfl, _, rfl, hn⟩
            case e16 =>
              intro o ho ρ W2 h hcl h16 hd af haf
              obtain rfl := Option.some.inj ho
              replace haf : af = fillD _ ρ [15] _ := haf
              obtain ⟨v15, h15⟩ := Option.isSome_iff_exists.1 (hd 15 (by show _ ∈ [15]; simp))
              obtain ⟨b, rfl, hn⟩ := h.e16 h15
              simp only [fillD, h15, Option.getD_some, dstAt, List.getElem?_cons_succ, List.getElem?_cons_zero, Option.bind_some, Act.put, List.setIfInBounds_toArray, List.set_cons_zero, List.set_cons_succ] at haf
              subst haf
              go_wp2
              exact ⟨rfl, _, rfl, hn⟩
          case hQ =>
            intro ρ W2 h hall
            obtain ⟨b5, a6, c6, aV, cV, b13, bw, h5, h6, h11, h12, h13, h14, h15, h16, hs⟩ := h.last hall
            simp only [fillD, h5, h6, h11, h12, h13, h14, h15, h16, Option.getD_some, dstAt, List.getElem?_cons_succ, List.getElem?_cons_zero, Option.bind_some, Act.put, List.setIfInBounds_toArray, List.set_cons_zero, List.set_cons_succ]
            have e1 : xs ++ [.int .i64 (d.node id 0), .int .u64 (ltEnd (ltBegin word)), .string ⟨#[]⟩, .int .u64 0] = ptRow (fst :: mid ++ [lst]) := by rw [Hxs.out, ptRow_append, Hlst.out]; rfl
            have e2 : mid.length + 1 + 1 = (fst :: mid ++ [lst]).length := by simp
            rw [e1, e2] at hs
            obtain ⟨ps, hps⟩ : ∃ ps, ps = fst :: mid ++ [lst] := ⟨_, rfl⟩
            have hps0 : ps[0]? = some fst := by rw [hps]; rfl
            have hpl : 0 < ps.length := by rw [hps]; simp
            rw [← hps] at hs
            obtain ⟨g, rfl, _⟩ := hs.row_at (ptRow_at ps 0 fst hps0).1
            have hs := hs.b2
            rw [show wrStore b13 = (if 0 < ps.length then wrStore b13 else none) from (if_pos hpl).symm] at hs
            have hs := hs.wr_close (k := 0) (g := g) (cap := c6) (ps := ps) (fun _ => by rw [Nat.zero_mul, Nat.sub_zero, Nat.sub_zero])
            have hs := hs.b6.tail.b6.tail.b5.b3.b4.b4.b4
            have Hps := Lib.hid hps
            clear hps0 hpl e1 e2 hps h5 h6 h11 h12 h13 h14 h15 h16 hall
            go_wp2
            go_ret
            exact ⟨bw, b13, g, c6, _, mid, ps, rfl, Hnew.out, Hps.out, hs⟩
end
section
variable {K : Know} {w : World} {F : List Comp} {x : Pg} {ax : Option Addr} {cx : Nat} {d : Cfg} {id : Int}
set_option maxHeartbeats 8000000 in
theorem newFreshG_st {X : Comp} (hX : Rdb K X ax x.sl) (hd : d.Ok) (hid : 0 ≤ id ∧ id < 18446744073709551616) (lx : 0 ≤ x.lev ∧ x.lev < 1000000) (hle : (x.sl.length : Int) ≤ d.fa) (hs : St K w (X :: F)) :
    Calls Tryz.prog 38 #[.agg #[.int .i64 d.th, .int .i64 d.sn, .int .i64 d.no, .int .i64 d.ch, .int .i64 d.re, .int .i64 d.fa, .int .u64 d.cl], .int .u64 id, .agg #[.int .i64 (x).lev, (.slice ax x.sl.length cx), .string (x).hi, .bool (x).la, .int .u64 (x).ri]] w fun e w' => ∃ (bw b g cap : Nat) (va : Value) (ps : List Pt), e = .returned (.pointer (some ⟨bw, 0, none⟩)) ∧ ps = ⟨d.node id 0, ⟨ltLock 0, ⟨#[]⟩, 0⟩⟩ :: pgPts d id x ∧
      St K w' (wrC b id (ltLock 0) x va g cap ps 0 :: rowC (.slice (some ⟨g, 0, none⟩) ps.length cap) 139 4 ps.length (ptRow ps) :: blk bw (.cells #[.pointer (some ⟨b, 0, none⟩)] 145) :: slC va x :: X :: F) := by
  have HX := Lib.hid hX
  have f2 := hd.fa2
  have qx := fun w F (hs : St K w (X :: F)) => cellsG_st hX (cap := cx) (pg := x) hd hid lx hle hs
  have lenx : (pgPts d id x).length = x.sl.length + 3 := by simp [pgPts, slPts_length]
  obtain ⟨px, hpx⟩ : ∃ px, px = pgPts d id x := ⟨_, rfl⟩
  rw [← hpx] at qx lenx ⊢
  have Qx := Lib.hid qx
  have nx : px.length ≤ 40 := by omega
  have Qa := Lib.hid (fun w => latch_any d hd id hid.1 hid.2 w)
  have Ql := Lib.hid (fun w => ltLock_any 0 (by decide) (by decide) w)
  obtain ⟨j0, hj0⟩ : ∃ j, j = d.node id 0 := ⟨_, rfl⟩
  obtain ⟨w0, hw0⟩ : ∃ z, z = ltLock 0 := ⟨_, rfl⟩
  simp only [← hj0] at Qa
  simp only [← hw0] at Ql
  rw [← hj0, ← hw0]
  obtain ⟨iv, hiv0, hiv1, hiv2, hiv3⟩ := info_parts infoPut
  clear qx hpx lenx hj0 hw0
  have hs := (hs.made (.cells #[.int .i64 d.th, .int .i64 d.sn, .int .i64 d.no, .int .i64 d.ch, .int .i64 d.re, .int .i64 d.fa, .int .u64 d.cl] 29)).made (.cells #[.int .i64 (x).lev, (.slice ax x.sl.length cx), .string (x).hi, .bool (x).la, .int .u64 (x).ri] 43)
  rw [World.size_alloc] at hs
  go_enter Tryz.func38, Tryz.ntmps38
  go_wp2_with fail
  refine (calls_id hs (Ql.out _)).mono ?_
  clear hs
  generalize w.heap.size = b0
  rintro e w1 ⟨rfl, hs⟩
  go_upto_region 2 with (fail)
  go_cut [8] (fun v8 wx => ∃ (a11 : Option Addr) (c11 : Nat), v8 = .slice a11 (1 + px.length) c11 ∧ St K wx (rowC (.slice a11 (1 + px.length) c11) 139 4 (1 + px.length) ([.int .i64 j0, .int .u64 w0, .string ⟨#[]⟩, .int .u64 0] ++ ptRow px) :: blk (b0 + 1) (.cells #[.int .i64 (x).lev, (.slice ax x.sl.length cx), .string (x).hi, .bool (x).la, .int .u64 (x).ri] 43) :: X :: F))
  case first =>
    as_aux_lemma =>
    have Hs := Lib.hid hs
    clear hs
    refine region_effects [false, false, false, false, false, false, true, false, false, false, true, true, true] [6, 10, 11, 12] (fun | 11 => [6, 10] | 12 => [11] | _ => [])
      (FrR K (blk (b0 + 1) (.cells #[.int .i64 (x).lev, (.slice ax x.sl.length cx), .string (x).hi, .bool (x).la, .int .u64 (x).ri] 43) :: blk b0 (.cells #[.int .i64 d.th, .int .i64 d.sn, .int .i64 d.no, .int .i64 d.ch, .int .i64 d.re, .int .i64 d.fa, .int .u64 d.cl] 29) :: X :: F) px.length [.int .i64 j0, .int .u64 w0, .string ⟨#[]⟩, .int .u64 0] (ptRow px))
      (fun W => St K W (blk (b0 + 1) (.cells #[.int .i64 (x).lev, (.slice ax x.sl.length cx), .string (x).hi, .bool (x).la, .int .u64 (x).ri] 43) :: blk b0 (.cells #[.int .i64 d.th, .int .i64 d.sn, .int .i64 d.no, .int .i64 d.ch, .int .i64 d.re, .int .i64 d.fa, .int .u64 d.cl] 29) :: X :: F)) ?aS (by kernel_rfl) ?hB ?H ?haS ?h0 ?hI ?hR ?hE ?hQ
    case hB => as_aux_lemma => kernel_rfl
    case H =>
      intro W2 hs
      have kp := hs.k0
      have kl := hs.k1
      clear hs
      simp only [withM]
      repeat (go_big_quiet_step ((go_at_call 69; exact pure_of (Qa.out _))))
      refine wpQuiet_nil ?_
      rfl
    case haS => rfl
    case h0 => exact ⟨0, none, 0, none, 0, fun v h => (by cases h), fun v h => (by cases h), fun v h => (by cases h), fun v h => (by cases h), Hs.out.empty.empty⟩
    case hI =>
      rintro ρ W2 ⟨b6, a10, c10, a11, c11, e1, e2, e3, e4, hs⟩
      exact hs.tail.tail
    case hR =>
      rintro ρ W2 W3 ⟨b6, a10, c10, a11, c11, e1, e2, e3, e4, hs⟩ hb
      exact ⟨b6, a10, c10, a11, c11, e1, e2, e3, e4, hs.same hb⟩
    case hE =>
      refine ⟨?e6, ?e10, ?e11, ?e12, trivial⟩
      case e6 =>
        intro o ho ρ W2 h hcl h6 hd2 af haf
        obtain rfl := Option.some.inj ho
        replace haf : af = fillD _ ρ [] _ := haf
        have h11 : ρ 11 = none := hcl.none (by simp) (show 6 ∈ [6, 10] by simp) h6
        obtain ⟨b6, a10, c10, a11, c11, e1, e2, e3, e4, hs⟩ := h
        rw [h6, h11] at hs
        simp only [fillD] at haf
        subst haf
        go_wp2
        refine ⟨rfl, _, rfl, W2.heap.size, a10, c10, a11, c11, fun v hv => (Option.some.inj hv).symm, e2, e3, e4, ?_⟩
        show St K _ (frRow _ (ρ 11) _ _ _ _ _ _ :: _)
        rw [h11]
        exact hs.tail.made _
      case e10 =>
        intro o ho ρ W2 h hcl h10 hd2 af haf
        obtain rfl := Option.some.inj ho
        replace haf : af = fillD _ ρ [] _ := haf
        obtain ⟨b6, a10, c10, a11, c11, e1, e2, e3, e4, hs⟩ := h
        rw [h10] at hs
        simp only [fillD] at haf
        subst haf
        go_wp2_with fail
        refine (Qx.out _ _ hs.b4).mono ?_
        rintro e W3 ⟨va, rfl, hs'⟩
        obtain ⟨a2, c2, rfl, _, _⟩ := hs'.row_read
        go_wp2
        exact ⟨rfl, _, rfl, b6, a2, c2, a11, c11, e1, fun v hv => (Option.some.inj hv).symm, e3, e4, hs'.b3.tail.b1.u4.b1⟩
      case e11 =>
        intro o ho ρ W2 h hcl h11 hd2 af haf
        obtain rfl := Option.some.inj ho
        replace haf : af = fillD _ ρ [6, 10] _ := haf
        obtain ⟨v6, h6⟩ := Option.isSome_iff_exists.1 (hd2 6 (by show _ ∈ [6, 10]; simp))
        obtain ⟨v10, h10⟩ := Option.isSome_iff_exists.1 (hd2 10 (by show _ ∈ [6, 10]; simp))
        have h12 : ρ 12 = none := hcl.none (by simp) (show 11 ∈ [11] by simp) h11
        obtain ⟨b6, a10, c10, a11, c11, e1, e2, e3, e4, hs⟩ := h
        obtain rfl := e1 v6 h6
        obtain rfl := e2 v10 h10
        rw [h6, h10, h11] at hs
        have hs : St K W2 (blk b6 (.cells ([.int .i64 j0, .int .u64 w0, .string ⟨#[]⟩, .int .u64 0]).toArray 139) :: rowC (.slice a10 px.length c10) 139 4 px.length (ptRow px) :: blk (b0 + 1) (.cells #[.int .i64 (x).lev, (.slice ax x.sl.length cx), .string (x).hi, .bool (x).la, .int .u64 (x).ri] 43) :: blk b0 (.cells #[.int .i64 d.th, .int .i64 d.sn, .int .i64 d.no, .int .i64 d.ch, .int .i64 d.re, .int .i64 d.fa, .int .u64 d.cl] 29) :: X :: F) := hs
        have hs := hs.row_lit (n := 1) (size := 4) rfl (by simp [maxLen])
        have hnw : ∀ j u, (ptRow px)[j]? = some u → ∃ g off, a10 = some ⟨g, off, none⟩ ∧ W2.cell? ⟨g, off + j, none⟩ = some u := fun j u hu => by
          obtain ⟨g, e, c⟩ := hs.b1.row_at hu
          exact ⟨g, 0, e, by rw [Nat.zero_add]; exact c⟩
        have hno : a10 = none → px.length = 0 := fun e => by
          cases px with
          | nil => rfl
          | cons p l =>
            obtain ⟨g, off, e2, _⟩ := hnw 0 _ (ptRow_at (p :: l) 0 p rfl).1
            rw [e] at e2; cases e2
        simp only [fillD, h6, h10, Option.getD_some, dstAt, List.getElem?_cons_succ, List.getElem?_cons_zero, Option.bind_some, Option.bind_none, Act.put, List.setIfInBounds_toArray, List.set_cons_zero, List.set_cons_succ] at haf
        subst haf
        refine append_row_st _ _ 137 139 _ 1 px.length c10 4 40 [.int .i64 j0, .int .u64 w0, .string ⟨#[]⟩, .int .u64 0] (ptRow px) (.agg #[.int .i64 0, .int .u64 0, .string ⟨#[]⟩, .int .u64 0]) iv a10 hs rfl rfl Tryz.underlying137 hiv0 hiv1 hiv2 hiv3 rfl (by decide) rfl rfl (ptRow_length px) hno hnw (ptRow_one px) (by omega) (by decide) ?_
        intro v' w' hs'
        obtain ⟨a2, c2, rfl, _, _⟩ := hs'.row_read
        refine ⟨rfl, _, rfl, b6, a10, c10, a2, c2, e1, e2, fun v hv => (Option.some.inj hv).symm, fun v hv => ?_, ?_⟩
        · have : ρ 12 = some v := hv
          rw [h12] at this; cases this
        · show St K w' (rowC _ _ _ _ _ :: optC (ρ 10) _ :: _)
          rw [h10]
          exact hs'
      case e12 =>
        intro o ho ρ W2 h hcl h12 hd2 af haf
        obtain rfl := Option.some.inj ho
        replace haf : af = fillD _ ρ [11] _ := haf
        obtain ⟨v11, h11⟩ := Option.isSome_iff_exists.1 (hd2 11 (by show _ ∈ [11]; simp))
        obtain ⟨b6, a10, c10, a11, c11, e1, e2, e3, e4, hs⟩ := h
        obtain rfl := e3 v11 h11
        simp only [fillD, h11, Option.getD_some, dstAt, List.getElem?_cons_succ, List.getElem?_cons_zero, Option.bind_some, Option.bind_none, Act.put, List.setIfInBounds_toArray, List.set_cons_zero, List.set_cons_succ] at haf
        subst haf
        go_wp2
        exact ⟨rfl, _, rfl, b6, a10, c10, a11, c11, e1, e2, e3, fun v hv => (Option.some.inj hv).symm, hs⟩
    case hQ =>
      intro ρ W2 h hall
      obtain ⟨v6, h6⟩ := Option.isSome_iff_exists.1 (hall 6 (by simp))
      obtain ⟨v10, h10⟩ := Option.isSome_iff_exists.1 (hall 10 (by simp))
      obtain ⟨v11, h11⟩ := Option.isSome_iff_exists.1 (hall 11 (by simp))
      obtain ⟨v12, h12⟩ := Option.isSome_iff_exists.1 (hall 12 (by simp))
      obtain ⟨b6, a10, c10, a11, c11, e1, e2, e3, e4, hs⟩ := h
      obtain rfl := e4 v12 h12
      rw [h11, h10] at hs
      simp only [fillD, h6, h10, h11, h12, Option.getD_some, dstAt, List.getElem?_cons_succ, List.getElem?_cons_zero, Option.bind_some, Option.bind_none, Act.put, List.setIfInBounds_toArray, List.set_cons_zero, List.set_cons_succ]
      clear h6 h10 h11 h12 e1 e2 e3 e4 hall
      go_wp2
      go_meet
      exact ⟨_, _, rfl, (hs.b1.tail).b2.tail⟩
  case rest =>
    clear hs
    obtain ⟨a11, c11, rfl, hs⟩ := hcut
    have e1 : [.int .i64 j0, .int .u64 w0, .string ⟨#[]⟩, .int .u64 0] ++ ptRow px = ptRow ((⟨j0, ⟨w0, ⟨#[]⟩, 0⟩⟩ : Pt) :: px) := rfl
    have e2 : ((⟨j0, ⟨w0, ⟨#[]⟩, 0⟩⟩ : Pt) :: px).length = 1 + px.length := by simp; omega
    rw [e1] at hs
    have kp := hs.k1
    go_wp2_with fail
    refine (clone_st (cap := cx) hs (HX.out _ _ hs.b2)).mono ?_
    clear hs kp
    rintro e w2 ⟨va, rfl, hs⟩
    obtain ⟨a2, c2, rfl, _, _⟩ := hs.row_read
    go_wp2_with fail
    refine (newWriter_st hs).mono ?_
    clear hs
    rintro e w3 ⟨b, rfl, hs⟩
    have hs := hs.made (.cells #[.pointer (some ⟨b, 0, none⟩)] 145)
    obtain ⟨ps, hps⟩ : ∃ ps, ps = (⟨j0, ⟨w0, ⟨#[]⟩, 0⟩⟩ : Pt) :: px := ⟨_, rfl⟩
    rw [← hps] at e2
    have hps0 : ps[0]? = some ⟨j0, ⟨w0, ⟨#[]⟩, 0⟩⟩ := by rw [hps]; rfl
    have hpl : 0 < ps.length := by omega
    rw [← hps, ← e2] at hs
    obtain ⟨g, rfl, _⟩ := hs.b3.row_at (ptRow_at ps 0 _ hps0).1
    have hs := hs.b1
    rw [show wrStore b = (if 0 < ps.length then wrStore b else none) from (if_pos hpl).symm] at hs
    rw [← e2]
    have Hs := Lib.hid (hs.wr_close (k := 0) (g := g) (cap := c11) (ps := ps) (fun _ => by rw [Nat.zero_mul, Nat.sub_zero, Nat.sub_zero]))
    have Hps := Lib.hid hps
    clear hs hps0 hpl e1 e2 hps
    go_wp2
    go_ret
    exact ⟨_, b, g, c11, _, ps, rfl, Hps.out, (Hs.out.b4.tail).b3.b1⟩

end
end Go.Proofs.YtlpdhhhgckpcfaaGreat
