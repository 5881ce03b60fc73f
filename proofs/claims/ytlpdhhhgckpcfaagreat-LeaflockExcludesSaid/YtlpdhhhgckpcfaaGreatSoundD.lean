
/- blinktreecells.View: sound, Sound. -/
import Derived.Test.YtlpdhhhgckpcfaaGreatSoundC
namespace Go.Proofs.YtlpdhhhgckpcfaaGreat
open Go.RowKit
set_option maxRecDepth 100000
theorem check7_any {a : Option Addr} {n cap : Nat} {pg : Pg} {fa : Int} (hlev : 0 ≤ pg.lev ∧ pg.lev < 1000000) (hn : n = pg.sl.length) (hfa : (n : Int) ≤ fa ∧ fa ≤ 1000000) (h1 : 0 < pg.lev → 0 < n) (hasc : Asc pg.sl) (hrf : ∀ s, s ∈ pg.sl → 1 ≤ s.r)
    (hla : pg.la = true → pg.hi = ⟨#[]⟩ ∧ pg.ri = 0) (hnl : pg.la = false → (∀ s, s ∈ pg.sl → klt s.k pg.hi = true) ∧ pg.ri ≠ 0) (w : World) (h : SlAt w a pg.sl) :
    Calls Tryz.prog 126 #[.agg #[.int .i64 (pg).lev, (.slice a n cap), .string (pg).hi, .bool (pg).la, .int .u64 (pg).ri], .int .i64 fa, .bool false] w fun e w' => e = .returned (.bool true) ∧ Below w.heap.size w w' := by
  obtain ⟨lev, sl, hi, la, ri⟩ := pg
  cases la with
  | true => exact check7_true hlev hn hfa h1 hasc hrf (hla rfl).1 (hla rfl).2 w h
  | false => exact check7_false hlev hn hfa h1 hasc hrf (hnl rfl).1 (hnl rfl).2 w h
/-- A node that is sound at its place. -/
structure NdSnd (d : Cfg) (L : List Cel) (lev : Nat) (below : List Int) (lows : List ByteArray) (nd : Nd) : Prop where
  ok : NdOk d L nd
  lv : nd.pg.lev = lev
  ne : 0 < lev → ∃ s r, nd.pg.sl = s :: r ∧ s.k = nd.low
  la : nd.pg.la = true → nd.pg.hi = ⟨#[]⟩ ∧ nd.pg.ri = 0
  ri : nd.pg.la = false → 1 ≤ nd.pg.ri ∧ nd.pg.ri ≤ d.no ∧ nd.pg.ri ≤ (getC L 4).n
  dn : ∀ s, s ∈ nd.pg.sl → lev = 0 ∨ ∃ k : Nat, below[k]? = some s.r ∧ lows[k]? = some s.k
section
variable {K : Know} {w : World} {F : List Comp} {d : Cfg} {g : Nat} {L : List Cel} {nd : Nd} {lev : Nat} {below : List Int} {lows : List ByteArray} {ab al : Option Addr} {cb cl : Nat}
set_option maxHeartbeats 8000000 in
theorem sound_st (hd : d.Ok) (hS : NdSnd d L lev below lows nd) (hlev : lev ≤ 4096) (hbl : below.length = lows.length ∧ below.length ≤ 4096) (hL : CelsOk L) (hg : K.map g = some (.cells (flat L).toArray 63)) (hl : L.length ≤ 1000000)
    (hs : St K w (rowC (.slice ab below.length cb) 23 1 below.length (u64Row below) :: rowC (.slice al lows.length cl) 9 1 lows.length (stRow lows) :: F)) :
    Calls Tryz.prog 86 #[.agg #[.int .i64 (d).th, .int .i64 (d).sn, .int .i64 (d).no, .int .i64 (d).ch, .int .i64 (d).re, .int .i64 (d).fa, .int .u64 (d).cl, .slice (some ⟨g, 0, none⟩) L.length L.length], .int .u64 nd.id, .int .i64 lev, .string nd.low, .slice ab below.length cb, .slice al lows.length cl] w
      fun e w' => e = .returned (.bool true) ∧ St K w' (rowC (.slice ab below.length cb) 23 1 below.length (u64Row below) :: rowC (.slice al lows.length cl) 9 1 lows.length (stRow lows) :: F) := by
  have hN := hS.ok
  have hid := hN.id
  have hno2 := hd.no2
  have hfa1 := hd.fa1
  have hfa2 := hd.fa2
  have hple := hN.page.le
  have hpn := hN.page.n
  have hfr := hN.free.n
  have b0 := (hL (d.node nd.id 0)).1
  have z0 : ((getC L (d.node nd.id 0)).n.tmod 4 != 0) = false := by rw [Int.tmod_eq_emod_of_nonneg b0, hfr]; rfl
  have z1 : ¬ (d.fa < (getC L (d.node nd.id 1)).n) := by omega
  have hri : nd.pg.la = true ∨ (nd.pg.la = false ∧ 1 ≤ nd.pg.ri ∧ nd.pg.ri ≤ d.no ∧ nd.pg.ri ≤ (getC L 4).n) := by
    rcases Bool.eq_false_or_eq_true nd.pg.la with h | h
    · exact .inl h
    · exact .inr ⟨h, hS.ri h⟩
  have Hri := Lib.hid hri
  have HS := Lib.hid hS
  have hs := hs.made (.cells #[.int .i64 (d).th, .int .i64 (d).sn, .int .i64 (d).no, .int .i64 (d).ch, .int .i64 (d).re, .int .i64 (d).fa, .int .u64 (d).cl, .slice (some ⟨g, 0, none⟩) L.length L.length] 52)
  obtain ⟨bv, hbv⟩ : ∃ bv, bv = w.heap.size := ⟨_, rfl⟩
  have Qp := Lib.hid (fun W cs (h : St K W cs) => viewPage_st hd hid.1 hid.2 hN.page hg hl h)
  have Qlat := Lib.hid (fun W cs (h : St K W cs) => viewLatch_any hd nd.id (by omega) W (vat_of hg hl h))
  have Qpart := Lib.hid (fun W cs (h : St K W cs) => viewPart_any hd nd.id 1 (by omega) (by omega) W (vat_of hg hl h))
  have Qn := Lib.hid (fun (id : Int) (h : 0 ≤ id ∧ id < 18446744073709551616) W cs (h2 : St K W cs) => viewNode_st hd id h hg hl h2)
  obtain ⟨m, hm⟩ : ∃ m, m = below.length := ⟨_, rfl⟩
  obtain ⟨q, hq⟩ : ∃ q, q = nd.pg.sl.length := ⟨_, rfl⟩
  have Qck := Lib.hid (fun W (a : Option Addr) (cap : Nat) (h : SlAt W a nd.pg.sl) => check7_any (fa := d.fa) (pg := nd.pg) (cap := cap) (by rw [hS.lv]; omega) hq (by omega) (fun h0 => by
    obtain ⟨s, r, e, _⟩ := hS.ne (by rw [hS.lv] at h0; omega)
    rw [hq, e]; simp) hN.asc hN.rf hS.la (fun e => ⟨fun s hs => (hN.bd s hs).2 e, by have := (hS.ri e).1; omega⟩) W h)
  have Hm := Lib.hid hm
  have Hq := Lib.hid hq
  have Hbl := Lib.hid hbl
  have hm4 : m ≤ 4096 := by omega
  have hq4 : q ≤ 4096 := by omega
  have hlv := Lib.hid hS.lv
  rw [← hbl.1, ← hm] at hs ⊢
  rw [← hq] at Qp
  generalize L.length = n at *
  generalize getC L (d.node nd.id 0) = c0 at *
  generalize getC L (d.node nd.id 1) = c1 at *
  have Z1 := Lib.hid z1
  clear z1
  clear hg hS hN hL hple hpn hfr b0 hri hm hq hbl hl
  go_enter Tryz.func86, Tryz.ntmps86
  go_wp2_with fail
  refine (Qp.out _ _ hs).mono ?_
  rw [← hbv] at hs ⊢
  clear hs Qp hbv
  rintro e w1 ⟨va, rfl, hs⟩
  obtain ⟨a1, cap1, rfl, _, _⟩ := hs.row_read
  have hs := hs.made (.cells #[.int .i64 (nd.pg).lev, (.slice a1 q cap1), .string (nd.pg).hi, .bool (nd.pg).la, .int .u64 (nd.pg).ri] 43)
  obtain ⟨bp, hbp⟩ : ∃ bp, bp = w1.heap.size := ⟨_, rfl⟩
  go_upto_region 2 with (fail)
  rw [← hbp] at hs ⊢
  clear hbp
  have kp := hs.k0
  have kv := hs.k2
  have hlv2 := hlv.out
  obtain ⟨lv, hlvv⟩ : ∃ lv, lv = nd.pg.lev := ⟨_, rfl⟩
  have hsl := (show St K _ (rowC _ _ _ _ _ :: _) from hs.b1).row_slots (by rw [← Hq.out]; omega)
  obtain ⟨w2, hw2⟩ : ∃ w2, w2 = w1.alloc (.cells #[.int .i64 (nd.pg).lev, (.slice a1 q cap1), .string (nd.pg).hi, .bool (nd.pg).la, .int .u64 (nd.pg).ri] 43) := ⟨_, rfl⟩
  rw [← hw2] at hs kp kv hsl ⊢
  have Qly := Lib.hid (fun wz (hy : ∃ x : Ext, wz = over w2 x) => Qlat.out wz _ (hs.same (Pure.below hy)))
  have Qpy := Lib.hid (fun wz (hy : ∃ x : Ext, wz = over w2 x) => Qpart.out wz _ (hs.same (Pure.below hy)))
  have Qcy := Lib.hid (fun wz (hy : ∃ x : Ext, wz = over w2 x) => Qck.out wz a1 cap1 (hsl.same (Pure.below hy)))
  have z1 : ¬ (d.fa < c1.n) := by have := Z1.out; omega
  rw [hlv2] at kp
  clear hw2 hsl hlvv hlv2
  refine region_pure (by kernel_rfl) (by kernel_rfl) ?_
  repeat (go_big_quiet_step (first | (go_at_call 31; exact pure_of (Qly.out _ ⟨_, rfl⟩)) | (go_at_call 87; exact pure_of (Qpy.out _ ⟨_, rfl⟩)) | (go_at_call 126; rw [← hlv.out]; exact pure_of (Qcy.out _ ⟨_, rfl⟩))))
  refine wpQuiet_nil ?_
  intro w3 hb3
  have hs := hs.same hb3
  clear kp kv hb3 Qly Qpy Qcy
  clear Qck Qlat Qpart Z1 z1
  go_wp2
  go_loopw [14] (fun v wr => ∃ i : Nat, v = .int .i64 i ∧ i ≤ q ∧ St K wr (blk bp (.cells #[.int .i64 (nd.pg).lev, (.slice a1 q cap1), .string (nd.pg).hi, .bool (nd.pg).la, .int .u64 (nd.pg).ri] 43) :: rowC (.slice a1 q cap1) 69 2 q (slRow nd.pg.sl) :: blk bv (.cells #[.int .i64 (d).th, .int .i64 (d).sn, .int .i64 (d).no, .int .i64 (d).ch, .int .i64 (d).re, .int .i64 (d).fa, .int .u64 (d).cl, .slice (some ⟨g, 0, none⟩) n n] 52) :: rowC (.slice ab m cb) 23 1 m (u64Row below) :: rowC (.slice al m cl) 9 1 m (stRow lows) :: F)) (fun v _ => q - (intOf v).toNat)
  case atStart => exact ⟨0, rfl, by omega, hs⟩
  case round =>
    clear hs
    obtain ⟨i, rfl, hi, hs⟩ := hrel
    by_cases hiq : i < q
    · obtain ⟨s, hsi⟩ : ∃ s, nd.pg.sl[i]? = some s := ⟨_, List.getElem?_eq_getElem (by have := Hq.out; omega)⟩
      have hmem := List.mem_of_getElem? hsi
      have hlow := (HS.out.ok.bd s hmem).1
      have hdn := HS.out.dn s hmem
      have hfirst : 0 < lev → i = 0 → s.k = nd.low := fun h1 h2 => by
        obtain ⟨s', r', e1, e2⟩ := HS.out.ne h1
        rw [h2, e1] at hsi
        rw [← e2, ← Option.some.inj hsi]
      obtain ⟨x0, x1⟩ := slRow_at nd.pg.sl i s hsi
      obtain ⟨ga, hga, cz⟩ := (show St K wr (rowC _ _ _ _ _ :: _) from hs.b1).row_at x0
      subst hga
      clear cz
      have X0 := Lib.hid x0
      have X1 := Lib.hid x1
      have Hfirst := Lib.hid hfirst
      have Hdn := Lib.hid hdn
      clear x0 x1 hfirst hdn hmem hsi
      have kp := hs.k0
      go_upto_region 7 with (fail)
      go_cut [81] from 999 to 0 (fun v wx => v = .bool false ∧ St K wx (blk bp (.cells #[.int .i64 (nd.pg).lev, (.slice (some ⟨ga, 0, none⟩) q cap1), .string (nd.pg).hi, .bool (nd.pg).la, .int .u64 (nd.pg).ri] 43) :: rowC (.slice (some ⟨ga, 0, none⟩) q cap1) 69 2 q (slRow nd.pg.sl) :: blk bv (.cells #[.int .i64 (d).th, .int .i64 (d).sn, .int .i64 (d).no, .int .i64 (d).ch, .int .i64 (d).re, .int .i64 (d).fa, .int .u64 (d).cl, .slice (some ⟨g, 0, none⟩) n n] 52) :: rowC (.slice ab m cb) 23 1 m (u64Row below) :: rowC (.slice al m cl) 9 1 m (stRow lows) :: F))
      case first =>
        as_aux_lemma =>
        by_cases hl0 : 0 < lev
        · rcases Nat.eq_zero_or_pos i with h0 | h0
          · have e := Hfirst.out hl0 h0
            have c0 := (show St K wr (rowC _ _ _ _ _ :: _) from hs.b1).row_cell X0.out
            rw [e] at c0 hlow
            subst h0
            have hl1 : (0 : Int) < lev := by omega
            have c0' : wr.cell? ⟨ga, 0, none⟩ = some (.string nd.low) := by simpa using c0
            clear e
            go_wp2
            go_meet
            exact ⟨rfl, hs⟩
          · have c0 := (show St K wr (rowC _ _ _ _ _ :: _) from hs.b1).row_cell X0.out
            have hl1 : (0 : Int) < lev := by omega
            have z : ((i : Int) == 0) = false := by simp; omega
            go_wp2
            go_meet
            exact ⟨rfl, hs⟩
        · have c0 := (show St K wr (rowC _ _ _ _ _ :: _) from hs.b1).row_cell X0.out
          obtain rfl : lev = 0 := by omega
          go_wp2
          go_meet
          exact ⟨rfl, hs⟩
      case rest =>
      clear hs kp
      obtain ⟨rfl, hs⟩ := hcut
      apply_assumption
      go_wp2
      go_loopw [15, 16] (fun v15 v16 wr => ∃ (b : Bool) (k : Nat), v15 = .bool b ∧ v16 = .int .i64 k ∧ k ≤ m ∧ Hid ((lev = 0 → b = true) ∧ ∀ k' : Nat, k' < k → below[k']? = some s.r → lows[k']? = some s.k → b = true) ∧ St K wr (blk bp (.cells #[.int .i64 (nd.pg).lev, (.slice (some ⟨ga, 0, none⟩) q cap1), .string (nd.pg).hi, .bool (nd.pg).la, .int .u64 (nd.pg).ri] 43) :: rowC (.slice (some ⟨ga, 0, none⟩) q cap1) 69 2 q (slRow nd.pg.sl) :: blk bv (.cells #[.int .i64 (d).th, .int .i64 (d).sn, .int .i64 (d).no, .int .i64 (d).ch, .int .i64 (d).re, .int .i64 (d).fa, .int .u64 (d).cl, .slice (some ⟨g, 0, none⟩) n n] 52) :: rowC (.slice ab m cb) 23 1 m (u64Row below) :: rowC (.slice al m cl) 9 1 m (stRow lows) :: F)) (fun _ v16 _ => m - (intOf v16).toNat)
      case atStart => exact ⟨_, 0, rfl, rfl, by omega, Lib.hid ⟨fun h => by subst h; rfl, fun k' h => by omega⟩, hs⟩
      case round =>
        clear hs
        obtain ⟨b, k, rfl, rfl, hk, HB, hs⟩ := hrel
        by_cases hkm : k < m
        · obtain ⟨x, hx⟩ : ∃ x, below[k]? = some x := ⟨_, List.getElem?_eq_getElem (by have := Hm.out; omega)⟩
          obtain ⟨y, hy⟩ : ∃ y, lows[k]? = some y := ⟨_, List.getElem?_eq_getElem (by have := Hm.out; have := Hbl.out; omega)⟩
          obtain ⟨gb, hgb, cx⟩ := (show St K wr (rowC _ _ _ _ _ :: _) from hs.b3).row_at (show (u64Row below)[k]? = some (.int .u64 x) by simp [u64Row, hx])
          obtain ⟨gl, hgl, cy⟩ := (show St K wr (rowC _ _ _ _ _ :: _) from hs.b4).row_at (show (stRow lows)[k]? = some (.string y) by simp [stRow, hy])
          subst hgb hgl
          have kp := hs.k0
          have c0 := (show St K wr (rowC _ _ _ _ _ :: _) from hs.b1).row_cell X0.out
          have c1 := (show St K wr (rowC _ _ _ _ _ :: _) from hs.b1).row_cell X1.out
          have Hx := Lib.hid hx
          have Hy := Lib.hid hy
          clear hx hy
          go_upto_region 13 with (fail)
          refine region_pure (by kernel_rfl) (by kernel_rfl) ?_
          rcases Bool.eq_false_or_eq_true b with rfl | rfl
          · as_aux_lemma =>
            repeat (go_big_quiet_step (fail))
            refine wpQuiet_nil ?_
            intro w5 hb5
            have hs := hs.same hb5
            clear kp c0 c1 cx cy hb5
            go_wp2
            go_roundw
            case rel => exact ⟨_, k + 1, rfl, by go_num, by omega, Lib.hid (⟨fun _ => rfl, fun _ _ _ _ => rfl⟩), hs⟩
            case measure => simp [intOf]; omega
          · cases hxr : (x == s.r) with
            | false =>
              as_aux_lemma =>
              have HX := Lib.hid (show ∀ k' : Nat, k' < k + 1 → below[k']? = some s.r → lows[k']? = some s.k → false = true from fun k' h1 h2 h3 => by
                by_cases e : k' = k
                · rw [e, Hx.out] at h2
                  rw [Option.some.inj h2] at hxr
                  simp at hxr
                · exact HB.out.2 k' (by omega) h2 h3)
              repeat (go_big_quiet_step (fail))
              refine wpQuiet_nil ?_
              intro w5 hb5
              have hs := hs.same hb5
              clear kp c0 c1 cx cy hb5
              go_wp2
              go_roundw
              case rel => exact ⟨_, k + 1, rfl, by go_num, by omega, Lib.hid (⟨HB.out.1, HX.out⟩), hs⟩
              case measure => simp [intOf]; omega
            | true =>
              cases hyk : (y.toList == s.k.toList) with
              | false =>
                as_aux_lemma =>
                have HX := Lib.hid (show ∀ k' : Nat, k' < k + 1 → below[k']? = some s.r → lows[k']? = some s.k → false = true from fun k' h1 h2 h3 => by
                  by_cases e : k' = k
                  · rw [e, Hy.out] at h3
                    rw [Option.some.inj h3] at hyk
                    simp at hyk
                  · exact HB.out.2 k' (by omega) h2 h3)
                repeat (go_big_quiet_step (fail))
                refine wpQuiet_nil ?_
                intro w5 hb5
                have hs := hs.same hb5
                clear kp c0 c1 cx cy hb5
                go_wp2
                go_roundw
                case rel => exact ⟨_, k + 1, rfl, by go_num, by omega, Lib.hid (⟨HB.out.1, HX.out⟩), hs⟩
                case measure => simp [intOf]; omega
              | true =>
                as_aux_lemma =>
                repeat (go_big_quiet_step (fail))
                refine wpQuiet_nil ?_
                intro w5 hb5
                have hs := hs.same hb5
                clear kp c0 c1 cx cy hb5
                go_wp2
                go_roundw
                case rel => exact ⟨_, k + 1, rfl, by go_num, by omega, Lib.hid (⟨fun _ => rfl, fun _ _ _ _ => rfl⟩), hs⟩
                case measure => simp [intOf]; omega
        · obtain rfl : k = m := by omega
          obtain rfl : b = true := by
            rcases Hdn.out with h | ⟨k', h1, h2⟩
            · exact HB.out.1 h
            · exact HB.out.2 k' (by have := (List.getElem?_eq_some_iff.1 h1).1; have := Hm.out; omega) h1 h2
          go_wp2
          go_roundw
          case rel => exact ⟨i + 1, by go_num, by omega, hs⟩
          case measure => simp [intOf]; omega
    · have kp := hs.k0
      rcases Hri.out with h | ⟨h, h1, h2, h3⟩
      · rw [h] at kp
        clear h
        go_wp2
        go_ret
        exact ⟨rfl, hs.tail.tail.tail⟩
      · have kv := hs.k2
        rw [h] at kp
        have qn := Qn.out nd.pg.ri (by omega)
        rw [decide_eq_true (show 1 ≤ nd.pg.ri ∧ nd.pg.ri ≤ d.no ∧ nd.pg.ri ≤ (getC L 4).n from ⟨h1, h2, h3⟩)] at qn
        have QN := Lib.hid qn
        clear h qn h1 h2 h3
        go_wp2_with fail
        refine (QN.out _ _ hs).mono ?_
        clear hs kp kv
        rintro e w4 ⟨rfl, hs⟩
        go_wp2
        go_ret
        exact ⟨rfl, hs.tail.tail.tail⟩
end
end Go.Proofs.YtlpdhhhgckpcfaaGreat
