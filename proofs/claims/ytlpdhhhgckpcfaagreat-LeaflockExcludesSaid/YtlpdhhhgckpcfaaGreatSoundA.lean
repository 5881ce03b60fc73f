
/- blinktreecells.View: Chain, Refs, Keys, counters, chains. -/
import Derived.Test.YtlpdhhhgckpcfaaGreatVers
import Derived.Test.YtlpdhhhgckpcfaaGreatLevA
import Derived.Test.YtlpdhhhgckpcfaaGreatCelSame
import Derived.Test.YtlpdhhhgckpcfaaGreatInsOut
namespace Go.Proofs.YtlpdhhhgckpcfaaGreat
open Go.RowKit
set_option maxRecDepth 100000
section
variable {K : Know} {w : World} {F : List Comp} {d : Cfg} {g : Nat} {L : List Cel}
/-- A record's number in a chain: 0 or a record. -/
theorem Linked.num {r : Int} {vs : List Ver} (h : Linked d L r vs) : (vs = [] ∧ r = 0) ∨ ∃ v rest, vs = v :: rest ∧ r = v.r ∧ VerAt d L v ∧ Linked d L (getC L (d.record v.r 2)).n rest := by
  cases vs with
  | nil => exact .inl ⟨rfl, h⟩
  | cons v rest => exact .inr ⟨v, rest, rfl, h.1, h.2.1, h.2.2⟩
set_option maxHeartbeats 8000000 in
theorem viewChain_st {c : Int} {vs : List Ver} (hd : d.Ok) (hc : 1 ≤ c ∧ c ≤ d.ch) (hlk : Linked d L (getC L (d.chain c)).n vs) (hn : (vs.length : Int) ≤ d.re) (hg : K.map g = some (.cells (flat L).toArray 63)) (hl : L.length ≤ 1000000) (hs : St K w F) :
    Calls Tryz.prog 124 #[.agg #[.int .i64 (d).th, .int .i64 (d).sn, .int .i64 (d).no, .int .i64 (d).ch, .int .i64 (d).re, .int .i64 (d).fa, .int .u64 (d).cl, .slice (some ⟨g, 0, none⟩) L.length L.length], .int .u64 c] w fun e w' => ∃ v, e = .returned v ∧ St K w' (rowC v 186 3 vs.length (verRow vs) :: F) := by
  have hre1 := hd.re1
  have hre2 := hd.re2
  have hch2 := hd.ch2
  obtain ⟨iv, hiv0, hiv1, hiv2, hiv3⟩ := info_parts infoVer
  have Hi0 := Lib.hid hiv0
  have Hi1 := Lib.hid hiv1
  have Hi2 := Lib.hid hiv2
  have Hi3 := Lib.hid hiv3
  clear hiv0 hiv1 hiv2 hiv3
  have hs := hs.made (.cells #[.int .i64 (d).th, .int .i64 (d).sn, .int .i64 (d).no, .int .i64 (d).ch, .int .i64 (d).re, .int .i64 (d).fa, .int .u64 (d).cl, .slice (some ⟨g, 0, none⟩) L.length L.length] 52)
  obtain ⟨bv, hbv⟩ : ∃ bv, bv = w.heap.size := ⟨_, rfl⟩
  have Qc := Lib.hid (fun w => refChain_any d hd c (by omega) (by omega) w)
  have Qr := Lib.hid (fun (r k : Int) (h1 : 0 ≤ r ∧ r ≤ d.re) (h2 : 0 ≤ k ∧ k ≤ 2) w => refRecord_any d hd r k (by omega) (by omega) h2.1 h2.2 w)
  have Q := Lib.hid (fun (i : Int) W cs (h : St K W cs) => viewAt_any (d := d) i W (vat_of hg hl h))
  obtain ⟨m, hm⟩ : ∃ m, m = vs.length := ⟨_, rfl⟩
  have Hlk := Lib.hid hlk
  have Hm := Lib.hid hm
  rw [← hm] at hn ⊢
  generalize L.length = n at *
  have k0 := hs.k0
  have hs0 := hs.row_nil (T := 186) (size := 3)
  clear hlk hm
  go_enter Tryz.func124, Tryz.ntmps124
  go_upto_region 2 with (fail)
  have Qy := Lib.hid (fun wz (hy : ∃ x : Ext, wz = over (w.alloc (.cells #[.int .i64 (d).th, .int .i64 (d).sn, .int .i64 (d).no, .int .i64 (d).ch, .int .i64 (d).re, .int .i64 (d).fa, .int .u64 (d).cl, .slice (some ⟨g, 0, none⟩) n n] 52)) x) => Q.out (d.chain c) wz _ (hs.same (Pure.below hy)))
  generalize getC L (d.chain c) = cc at *
  refine region_pure (by kernel_rfl) (by kernel_rfl) ?_
  repeat (go_big_quiet_step (first | (go_at_call 123; exact pure_of (Qc.out _)) | (go_at_call 83; exact pure_of (Qy.out _ ⟨_, rfl⟩))))
  refine wpQuiet_nil ?_
  intro w1 hb1
  rw [← hbv] at hs0 ⊢
  have hs := hs0.same (by simpa using hb1)
  clear hs0 hb1 k0 Qy Qc hbv
  go_wp2
  go_loopw [5, 6, 7] (fun v5 v6 v7 wr => ∃ (i : Nat) (r : Int) (ao : Option Addr) (co : Nat), v5 = .slice ao i co ∧ v6 = .int .u64 r ∧ v7 = .int .i64 i ∧ i ≤ m ∧ Hid (Linked d L r (vs.drop i)) ∧
    St K wr (rowC (.slice ao i co) 186 3 i (verRow (vs.take i)) :: blk bv (.cells #[.int .i64 (d).th, .int .i64 (d).sn, .int .i64 (d).no, .int .i64 (d).ch, .int .i64 (d).re, .int .i64 (d).fa, .int .u64 (d).cl, .slice (some ⟨g, 0, none⟩) n n] 52) :: F)) (fun _ _ v7 _ => m - (intOf v7).toNat)
  case atStart => exact ⟨0, _, none, 0, rfl, rfl, rfl, by omega, Hlk, hs⟩
  case round =>
    clear hs Hlk
    obtain ⟨i, r, ao, co, rfl, rfl, rfl, hi, HR, hs⟩ := hrel
    by_cases him : i < m
    · obtain ⟨x, hx⟩ : ∃ x, vs[i]? = some x := ⟨_, List.getElem?_eq_getElem (by have := Hm.out; omega)⟩
      have hdrop : vs.drop i = x :: vs.drop (i + 1) := by
        have := List.drop_eq_getElem_cons (List.getElem?_eq_some_iff.1 hx).1
        rw [(List.getElem?_eq_some_iff.1 hx).2] at this
        exact this
      have hr := HR.out
      rw [hdrop] at hr
      obtain ⟨rfl, hva, hnext⟩ := hr
      obtain ⟨r1, r2, r3, r4, r5⟩ := hva
      have hpos := record_pos hd r1 r2 (k := 0) (by omega) (by omega)
      have hpush : verRow (vs.take (i + 1)) = verRow (vs.take i) ++ verCells x := by rw [List.take_add_one, hx]; simp [verRow]
      have hdel : ((getC L (d.record x.r 1)).m == 1) = x.del := by rw [r5]; cases x.del <;> rfl
      have Hpush := Lib.hid hpush
      have Hnext := Lib.hid hnext
      have him2 : (i : Int) < d.re := by omega
      have q1 := Q.out (d.record x.r 1)
      have q0 := Q.out (d.record x.r 0)
      have q2 := Q.out (d.record x.r 2)
      rw [r3] at q0
      rw [r4] at q1
      have Q1 := Lib.hid q1
      have Q0 := Lib.hid q0
      have Q2 := Lib.hid q2
      have Qr0 := Lib.hid (fun w => Qr.out x.r 0 (by omega) (by omega) w)
      have Qr1 := Lib.hid (fun w => Qr.out x.r 1 (by omega) (by omega) w)
      have Qr2 := Lib.hid (fun w => Qr.out x.r 2 (by omega) (by omega) w)
      have Hdel := Lib.hid hdel
      generalize getC L (d.record x.r 1) = c1 at *
      generalize getC L (d.record x.r 0) = c0 at *
      generalize getC L (d.record x.r 2) = c2 at *
      generalize d.record x.r 0 = e0 at *
      generalize d.record x.r 1 = e1 at *
      generalize d.record x.r 2 = e2 at *
      clear hx hdrop hpush hnext r3 r4 r5 hdel q0 q1 q2 HR
      have kv := hs.k1
      go_wp2_with fail
      refine (calls_same hs (Qr0.out _)).mono ?_
      clear hs kv
      rintro e w2 ⟨rfl, hs⟩
      have kv := hs.k1
      go_upto_region 6 with (fail)
      have Hs := Lib.hid hs
      clear hs kv
      refine region_two [false, false, false, false, false, false, true, true] 6 7
        (fun W => St K W (rowC (.slice ao i co) 186 3 i (verRow (vs.take i)) :: blk bv (.cells #[.int .i64 (d).th, .int .i64 (d).sn, .int .i64 (d).no, .int .i64 (d).ch, .int .i64 (d).re, .int .i64 (d).fa, .int .u64 (d).cl, .slice (some ⟨g, 0, none⟩) n n] 52) :: F))
        (fun v W => ∃ b6 : Nat, v = (.pointer (some ⟨b6, 0, none⟩)) ∧ St K W (blk b6 (.cells #[.int .u64 0, .string ⟨#[]⟩, .int .u64 0] 63) :: rowC (.slice ao i co) 186 3 i (verRow (vs.take i)) :: blk bv (.cells #[.int .i64 (d).th, .int .i64 (d).sn, .int .i64 (d).no, .int .i64 (d).ch, .int .i64 (d).re, .int .i64 (d).fa, .int .u64 (d).cl, .slice (some ⟨g, 0, none⟩) n n] 52) :: F))
        (fun v u W => u = undef ∧ ∃ b6 : Nat, v = (.pointer (some ⟨b6, 0, none⟩)) ∧ St K W (blk b6 (.cells #[.int .u64 c1.n, .string x.k, .int .u64 c1.m] 63) :: rowC (.slice ao i co) 186 3 i (verRow (vs.take i)) :: blk bv (.cells #[.int .i64 (d).th, .int .i64 (d).sn, .int .i64 (d).no, .int .i64 (d).ch, .int .i64 (d).re, .int .i64 (d).fa, .int .u64 (d).cl, .slice (some ⟨g, 0, none⟩) n n] 52) :: F))
        (fun W => ∃ cs, St K W (rowC (.slice ao i co) 186 3 i (verRow (vs.take i)) :: blk bv (.cells #[.int .i64 (d).th, .int .i64 (d).sn, .int .i64 (d).no, .int .i64 (d).ch, .int .i64 (d).re, .int .i64 (d).fa, .int .u64 (d).cl, .slice (some ⟨g, 0, none⟩) n n] 52) :: cs)) ?aS (by decide) (by kernel_rfl) ?hB ?H ?haS Hs.out ?hI ?hR ?hE1 ?hE2 ?hQ
      case hB => as_aux_lemma => kernel_rfl
      case H =>
        rintro W2 ⟨cs, hs⟩
        have kv := hs.k1
        have Qy := Lib.hid (fun wz (hy : ∃ x : Ext, wz = over W2 x) => Q1.out wz _ (hs.same (Pure.below hy)))
        clear hs
        simp only [withM]
        repeat (go_big_quiet_step (first | (go_at_call 155; exact pure_of (Qr1.out _)) | (go_at_call 83; exact pure_of (Qy.out _ ⟨_, rfl⟩))))
        refine wpQuiet_nil ?_
        rfl
      case haS => rfl
      case hI => exact ⟨fun W h => ⟨_, h⟩, fun v W ⟨_, _, h⟩ => ⟨_, h.tail⟩, fun v u W ⟨_, _, _, h⟩ => ⟨_, h.tail⟩⟩
      case hR => exact ⟨fun W W' h hb => h.same hb, fun v W W' ⟨b, e, h⟩ hb => ⟨b, e, h.same hb⟩, fun v u W W' ⟨e0, b, e, h⟩ hb => ⟨e0, b, e, h.same hb⟩⟩
      case hE1 =>
        intro R2' o ho ρ W2 hs hk af haf
        obtain rfl := Option.some.inj ho
        subst haf
        have Hk := Lib.hid hk
        clear hk
        have hs := hs.made (.cells #[.int .u64 0, .string ⟨#[]⟩, .int .u64 0] 63)
        go_wp2
        exact ⟨rfl, _, rfl, Hk.out _ _ ⟨_, rfl, hs⟩⟩
      case hE2 =>
        rintro R2' o ho ρ v W2 ⟨b6, rfl, hs⟩ hk af haf
        obtain rfl := Option.some.inj ho
        have Hk := Lib.hid hk
        clear hk
        simp only [dstAt, List.getElem?_cons_succ, List.getElem?_cons_zero, Option.bind_some, Act.put, List.setIfInBounds_toArray, List.set_cons_zero, List.set_cons_succ] at haf
        subst haf
        have k0 := hs.k0
        have f0 := hs.f0
        have hs := ((hs.setL 0 (.int .u64 c1.n)).setL 1 (.string x.k)).setL 2 (.int .u64 c1.m)
        simp only [List.set_cons_zero, List.set_cons_succ] at hs
        go_wp2
        exact ⟨rfl, undef, rfl, Hk.out _ _ ⟨rfl, b6, rfl, hs⟩⟩
      case hQ =>
        rintro v u W2 ⟨rfl, b6, rfl, hs⟩
        simp only [dstAt, List.getElem?_cons_succ, List.getElem?_cons_zero, Option.bind_some, Option.bind_none, Act.put, List.setIfInBounds_toArray, List.set_cons_zero, List.set_cons_succ]
        have k6 := hs.k0
        have kv := hs.k2
        have Qy := Lib.hid (fun wz (hy : ∃ x : Ext, wz = over W2 x) => Q0.out wz _ (hs.same (Pure.below hy)))
        go_upto_region 7 with (fail)
        refine region_tail_move _ 13 rfl rfl (by kernel_rfl) (by as_aux_lemma => kernel_rfl) (fun _ _ _ _ h => h) ?_
        simp only [List.take_succ_cons, List.take_zero, List.drop_succ_cons, List.drop_zero, Act.put, List.setIfInBounds_toArray, List.set_cons_zero, List.set_cons_succ, Act.eval]
        repeat (go_big_quiet_step (first | (go_at_call 155; exact pure_of (Qr0.out _)) | (go_at_call 83; exact pure_of (Qy.out _ ⟨_, rfl⟩))))
        refine wpQuiet_nil ?_
        intro w5 hb5
        have hs := hs.same hb5
        clear k6 kv hb5 Qy
        have hs := hs.b1
        rw [Hdel.out]
        go_wp2_with (at_builtin; refine append_st _ _ 182 186 _ i 3 32 _ (verCells x) (.agg #[.int .u64 0, .string ⟨#[]⟩, .bool false]) iv hs rfl rfl Tryz.underlying182 Hi0.out Hi1.out Hi2.out Hi3.out rfl (by decide) rfl rfl rfl (fun u hu => by simp [verCells] at hu; rcases hu with rfl | rfl | rfl <;> rfl) (by omega) (by decide) ?_)
        clear hs
        intro v' w' hs
        obtain ⟨ao2, co2, hv, _, _⟩ := hs.row_read
        subst hv
        rw [← Hpush.out] at hs
        have hs := hs.drop1
        have kv := hs.k1
        have Qy := Lib.hid (fun wz (hy : ∃ x : Ext, wz = over w' x) => Q2.out wz _ (hs.same (Pure.below hy)))
        go_upto_region 8 with (fail)
        refine region_pure (by kernel_rfl) (by kernel_rfl) ?_
        repeat (go_big_quiet_step (first | (go_at_call 155; exact pure_of (Qr2.out _)) | (go_at_call 83; exact pure_of (Qy.out _ ⟨_, rfl⟩))))
        refine wpQuiet_nil ?_
        intro w6 hb6
        have hs := hs.same hb6
        clear kv hb6 Qy
        go_wp2
        go_roundw
        case rel => exact ⟨i + 1, _, ao2, co2, rfl, rfl, by go_num, by omega, Hnext, hs⟩
        case measure => simp [intOf]; omega
    · obtain rfl : i = m := by omega
      have hr := HR.out
      rw [List.drop_of_length_le (by rw [← Hm.out]; exact Nat.le_refl _)] at hr
      obtain rfl : r = 0 := hr
      clear HR
      have q := fun w => Qr.out 0 0 (by omega) (by omega) w
      rw [show d.record 0 0 = -1 by unfold Cfg.record; rw [if_neg (by omega)]] at q
      have QR := Lib.hid q
      clear q
      rw [List.take_of_length_le (by rw [← Hm.out]; exact Nat.le_refl _)] at hs
      have kv := hs.k1
      by_cases hre : (i : Int) < d.re
      · go_wp2_with fail
        refine (calls_same hs (QR.out _)).mono ?_
        clear hs kv
        rintro e w2 ⟨rfl, hs⟩
        go_wp2
        go_ret
        exact ⟨_, rfl, hs.drop1⟩
      · go_wp2
        go_ret
        exact ⟨_, rfl, hs.drop1⟩
variable {t : List (List Nd)}
set_option maxHeartbeats 8000000 in
theorem viewRefs_st (hd : d.Ok) (ht : TreeOk d L t) {l : List Nd} (h0 : t[0]? = some l) (hg : K.map g = some (.cells (flat L).toArray 63)) (hl : L.length ≤ 1000000) (hs : St K w F) :
    Calls Tryz.prog 63 #[.agg #[.int .i64 (d).th, .int .i64 (d).sn, .int .i64 (d).no, .int .i64 (d).ch, .int .i64 (d).re, .int .i64 (d).fa, .int .u64 (d).cl, .slice (some ⟨g, 0, none⟩) L.length L.length]] w fun e w' => ∃ v, e = .returned v ∧ St K w' (rowC v 23 1 (l.flatMap fun nd => nd.pg.sl).length (u64Row ((l.flatMap fun nd => nd.pg.sl).map (·.r))) :: F) := by
  have hno2 := hd.no2
  have hfa2 := hd.fa2
  have htne := ht.ne
  obtain ⟨iv, hiv0, hiv1, hiv2, hiv3⟩ := info_parts infoU64
  have Hi0 := Lib.hid hiv0
  have Hi1 := Lib.hid hiv1
  have Hi2 := Lib.hid hiv2
  have Hi3 := Lib.hid hiv3
  clear hiv0 hiv1 hiv2 hiv3
  have hs := hs.made (.cells #[.int .i64 (d).th, .int .i64 (d).sn, .int .i64 (d).no, .int .i64 (d).ch, .int .i64 (d).re, .int .i64 (d).fa, .int .u64 (d).cl, .slice (some ⟨g, 0, none⟩) L.length L.length] 52)
  obtain ⟨bv, hbv⟩ : ∃ bv, bv = w.heap.size := ⟨_, rfl⟩
  have hlen : l.length ≤ 4096 := by have := List.sum_le_of_mem' h0; have := ht.count; have := ht.n4; omega
  have hsl : ∀ nd, nd ∈ l → nd.pg.sl.length ≤ 4096 := fun nd hn => by have := (ht.nodes 0 l h0 nd hn).page.le; omega
  have htot : ∀ i, i ≤ l.length → slPos l i ≤ i * 4096 := by
    intro i
    induction i with
    | zero => intro _; exact Nat.le_refl _
    | succ i ih =>
      intro hi
      obtain ⟨a, ha⟩ : ∃ a, l[i]? = some a := ⟨_, List.getElem?_eq_getElem (by omega)⟩
      have := ih (by omega)
      have := hsl a (List.mem_of_getElem? ha)
      rw [slPos_succ ha]
      omega
  have Ql := Lib.hid (fun W cs (h : St K W cs) => viewLevel_st (k := 0) hd ht (by omega) hg hl h)
  have Qp := Lib.hid (fun (nd : Nd) (hn : nd ∈ l) W cs (h : St K W cs) => viewPage_st hd (ht.nodes 0 l h0 nd hn).id.1 (ht.nodes 0 l h0 nd hn).id.2 (ht.nodes 0 l h0 nd hn).page hg hl h)
  have hids : lvIds t 0 = l.map (·.id) := by unfold lvIds; rw [h0]
  rw [hids] at Ql
  have elen : (l.map (·.id)).length = l.length := List.length_map ..
  rw [elen] at Ql
  obtain ⟨m, hm⟩ : ∃ m, m = l.length := ⟨_, rfl⟩
  have Hm := Lib.hid hm
  have Hsl := Lib.hid hsl
  have Htot := Lib.hid htot
  rw [← hm] at Ql hlen
  generalize L.length = n at *
  clear ht hg hids elen hm h0 hsl htot htne
  go_enter Tryz.func63, Tryz.ntmps63
  go_wp2_with fail
  refine (Ql.out _ _ hs).mono ?_
  rw [← hbv] at hs ⊢
  clear hs Ql hbv
  rintro e w1 ⟨va, rfl, hs⟩
  obtain ⟨a, cap, rfl, _, _⟩ := hs.row_read
  have hs := hs.row_nil (T := 23) (size := 1)
  go_wp2
  go_loopw [3, 5] (fun v3 v5 wr => ∃ (i : Nat) (ao : Option Addr) (co : Nat), v3 = .slice ao (slPos l i) co ∧ v5 = .int .i64 i ∧ i ≤ m ∧
    St K wr (rowC (.slice ao (slPos l i) co) 23 1 (slPos l i) (u64Row (((l.take i).flatMap fun nd => nd.pg.sl).map (·.r))) :: rowC (.slice a m cap) 23 1 m (u64Row (l.map (·.id))) :: blk bv (.cells #[.int .i64 (d).th, .int .i64 (d).sn, .int .i64 (d).no, .int .i64 (d).ch, .int .i64 (d).re, .int .i64 (d).fa, .int .u64 (d).cl, .slice (some ⟨g, 0, none⟩) n n] 52) :: F)) (fun _ v5 _ => m - (intOf v5).toNat)
  case atStart => exact ⟨0, none, 0, rfl, rfl, by omega, hs⟩
  case round =>
    clear hs
    obtain ⟨i, ao, co, rfl, rfl, hi, hs⟩ := hrel
    by_cases him : i < m
    · obtain ⟨nd, hnd⟩ : ∃ nd, l[i]? = some nd := ⟨_, List.getElem?_eq_getElem (by have := Hm.out; omega)⟩
      have QN := Lib.hid (Qp.out nd (List.mem_of_getElem? hnd))
      obtain ⟨ga, hga, _⟩ := (show St K wr (rowC _ _ _ _ _ :: _) from hs.b1).row_at (show (u64Row (l.map (·.id)))[i]? = some (.int .u64 nd.id) by simp [u64Row, hnd])
      subst hga
      have Hnd := Lib.hid hnd
      have hq4 := Hsl.out nd (List.mem_of_getElem? hnd)
      have ht4 := Htot.out i (by have := Hm.out; omega)
      have hpos : slPos l i ≤ 16777216 := by have := Nat.mul_le_mul_right 4096 (show i ≤ 4096 by omega); omega
      have hsucc := slPos_succ hnd
      have hpre : (l.take (i + 1)).flatMap (fun nd => nd.pg.sl) = (l.take i).flatMap (fun nd => nd.pg.sl) ++ nd.pg.sl := by rw [List.take_add_one, hnd]; simp
      have Hpre := Lib.hid hpre
      have Hsucc := Lib.hid hsucc
      generalize slPos l i = P at *
      generalize (l.take i).flatMap (fun nd => nd.pg.sl) = PRE at *
      clear hnd ht4 hsucc hpre
      go_upto_region 6 with (fail)
      have Hs := Lib.hid hs
      clear hs
      refine region_effects [false, false, false, false, false, true, true, true] [5, 6, 7] (fun | 7 => [5, 6] | _ => [])
        (PbR K (rowC (.slice ao P co) 23 1 P (u64Row (PRE.map (·.r))) :: rowC (.slice (some ⟨ga, 0, none⟩) m cap) 23 1 m (u64Row (l.map (·.id))) :: blk bv (.cells #[.int .i64 (d).th, .int .i64 (d).sn, .int .i64 (d).no, .int .i64 (d).ch, .int .i64 (d).re, .int .i64 (d).fa, .int .u64 (d).cl, .slice (some ⟨g, 0, none⟩) n n] 52) :: F) nd.pg)
        (fun W => St K W (rowC (.slice ao P co) 23 1 P (u64Row (PRE.map (·.r))) :: rowC (.slice (some ⟨ga, 0, none⟩) m cap) 23 1 m (u64Row (l.map (·.id))) :: blk bv (.cells #[.int .i64 (d).th, .int .i64 (d).sn, .int .i64 (d).no, .int .i64 (d).ch, .int .i64 (d).re, .int .i64 (d).fa, .int .u64 (d).cl, .slice (some ⟨g, 0, none⟩) n n] 52) :: F)) ?aSb (by kernel_rfl) ?hBb ?Hb ?haSb ?h0b ?hIb ?hRb ?hEb ?hQb
      case hBb => as_aux_lemma => kernel_rfl
      case Hb =>
        intro W2 hs
        have kv := hs.k2
        have c0 := (show St K W2 (rowC _ _ _ _ _ :: _) from hs.b1).row_cell (show (u64Row (l.map (·.id)))[i]? = some (.int .u64 nd.id) by simp [u64Row, Hnd.out])
        clear hs
        simp only [withM]
        repeat (go_big_quiet_step (fail))
        refine wpQuiet_nil ?_
        rfl
      case haSb => rfl
      case h0b => exact PbR.start Hs.out
      case hIb => exact fun ρ W2 h => h.rest
      case hRb => exact fun ρ W2 W3 h hb => h.same hb
      case hEb =>
        refine ⟨?e5b, ?e6b, ?e7b, trivial⟩
        case e5b =>
          intro o ho ρ W2 h hcl h5 hd2 af haf
          obtain rfl := Option.some.inj ho
          replace haf : af = fillD _ ρ [] _ := haf
          have h7 : ρ 7 = none := hcl.none (by simp) (show 5 ∈ [5, 6] by simp) h5
          obtain ⟨R', hs, hnext⟩ := h.e5 h5 h7
          simp only [fillD] at haf
          subst haf
          have Hn := Lib.hid hnext
          clear hnext hcl hd2 h5 h7 h
          go_wp2_with fail
          refine (QN.out _ _ hs).mono ?_
          rintro e W3 ⟨va3, rfl, hs'⟩
          obtain ⟨a3, c3, rfl, _, _⟩ := hs'.row_read
          have Hs' := Lib.hid hs'
          clear hs hs'
          go_wp2
          exact ⟨rfl, _, rfl, Hn.out _ _ W3 Hs'.out⟩
        case e6b =>
          intro o ho ρ W2 h hcl h6 hd2 af haf
          obtain rfl := Option.some.inj ho
          replace haf : af = fillD _ ρ [] _ := haf
          have h7 : ρ 7 = none := hcl.none (by simp) (show 6 ∈ [5, 6] by simp) h6
          have Hn := Lib.hid (h.e6 h6 h7)
          simp only [fillD] at haf
          subst haf
          clear hcl hd2 h6 h7 h
          go_wp2
          exact ⟨rfl, _, rfl, Hn.out⟩
        case e7b =>
          intro o ho ρ W2 h hcl h7 hd2 af haf
          obtain rfl := Option.some.inj ho
          replace haf : af = fillD _ ρ [5, 6] _ := haf
          obtain ⟨v5, h5⟩ := Option.isSome_iff_exists.1 (hd2 5 (by show _ ∈ [5, 6]; simp))
          obtain ⟨v6, h6⟩ := Option.isSome_iff_exists.1 (hd2 6 (by show _ ∈ [5, 6]; simp))
          obtain ⟨a3, c3, b3, R', rfl, rfl, hs, hnext⟩ := h.e7 h5 h6 h7
          simp only [fillD, h5, h6, Option.getD_some, dstAt, List.getElem?_cons_succ, List.getElem?_cons_zero, Option.bind_some, Option.bind_none, Act.put, List.setIfInBounds_toArray, List.set_cons_zero, List.set_cons_succ] at haf
          subst haf
          have k0 := hs.k0
          have f0 := hs.f0
          have hs := ((((hs.setL 0 (.int .i64 nd.pg.lev)).setL 1 (.slice a3 nd.pg.sl.length c3)).setL 2 (.string nd.pg.hi)).setL 3 (.bool nd.pg.la)).setL 4 (.int .u64 nd.pg.ri)
          have Hs3 := Lib.hid hs
          have Hn := Lib.hid hnext
          clear hs hnext hcl hd2 h h5 h6 h7
          go_wp2
          exact ⟨rfl, undef, rfl, Hn.out _ Hs3.out⟩
      case hQb =>
        intro ρ W2 h hall
        obtain ⟨a3, c3, b3, h5, h6, ⟨v7, h7⟩, hs⟩ := h.last hall
        simp only [fillD, h5, h6, h7, Option.getD_some, dstAt, List.getElem?_cons_succ, List.getElem?_cons_zero, Option.bind_some, Option.bind_none, Act.put, List.setIfInBounds_toArray, List.set_cons_zero, List.set_cons_succ]
        clear h hall h5 h6 h7
        have hs : St K W2 (blk b3 (.cells #[.int .i64 (nd.pg).lev, (.slice a3 nd.pg.sl.length c3), .string (nd.pg).hi, .bool (nd.pg).la, .int .u64 (nd.pg).ri] 43) :: slC (.slice a3 nd.pg.sl.length c3) nd.pg :: rowC (.slice ao P co) 23 1 P (u64Row (PRE.map (·.r))) :: rowC (.slice (some ⟨ga, 0, none⟩) m cap) 23 1 m (u64Row (l.map (·.id))) :: blk bv (.cells #[.int .i64 (d).th, .int .i64 (d).sn, .int .i64 (d).no, .int .i64 (d).ch, .int .i64 (d).re, .int .i64 (d).fa, .int .u64 (d).cl, .slice (some ⟨g, 0, none⟩) n n] 52) :: F) := hs
        obtain ⟨q, hq⟩ : ∃ q, q = nd.pg.sl.length := ⟨_, rfl⟩
        have Hq := Lib.hid hq
        rw [← hq] at hq4
        have hs : St K W2 (blk b3 (.cells #[.int .i64 nd.pg.lev, .slice a3 q c3, .string nd.pg.hi, .bool nd.pg.la, .int .u64 nd.pg.ri] 43) :: rowC (.slice a3 q c3) 69 2 q (slRow nd.pg.sl) :: rowC (.slice ao P co) 23 1 P (u64Row (PRE.map (·.r))) :: rowC (.slice (some ⟨ga, 0, none⟩) m cap) 23 1 m (u64Row (l.map (·.id))) :: blk bv (.cells #[.int .i64 (d).th, .int .i64 (d).sn, .int .i64 (d).no, .int .i64 (d).ch, .int .i64 (d).re, .int .i64 (d).fa, .int .u64 (d).cl, .slice (some ⟨g, 0, none⟩) n n] 52) :: F) := by rw [hq]; exact hs
        clear hq
        go_upto_region 7 with (fail)
        go_wp2
        go_loopw [3, 7] (fun v3 v7 wr => ∃ (j : Nat) (ao : Option Addr) (co : Nat), v3 = .slice ao (P + j) co ∧ v7 = .int .i64 j ∧ j ≤ q ∧
          St K wr (blk b3 (.cells #[.int .i64 nd.pg.lev, .slice a3 q c3, .string nd.pg.hi, .bool nd.pg.la, .int .u64 nd.pg.ri] 43) :: rowC (.slice a3 q c3) 69 2 q (slRow nd.pg.sl) :: rowC (.slice ao (P + j) co) 23 1 (P + j) (u64Row ((PRE ++ nd.pg.sl.take j).map (·.r))) :: rowC (.slice (some ⟨ga, 0, none⟩) m cap) 23 1 m (u64Row (l.map (·.id))) :: blk bv (.cells #[.int .i64 (d).th, .int .i64 (d).sn, .int .i64 (d).no, .int .i64 (d).ch, .int .i64 (d).re, .int .i64 (d).fa, .int .u64 (d).cl, .slice (some ⟨g, 0, none⟩) n n] 52) :: F)) (fun _ v7 _ => q - (intOf v7).toNat)
        case atStart => exact ⟨0, ao, co, rfl, rfl, by omega, by rw [List.take_zero, List.append_nil]; exact hs⟩
        case round =>
          clear hs
          obtain ⟨j, ao, co, rfl, rfl, hj, hs⟩ := hrel
          by_cases hjq : j < q
          · obtain ⟨x, hx⟩ : ∃ x, nd.pg.sl[j]? = some x := ⟨_, List.getElem?_eq_getElem (by have := Hq.out; omega)⟩
            obtain ⟨r0, r1⟩ := slRow_at nd.pg.sl j x hx
            obtain ⟨g3, hg3, c0⟩ := (show St K wr (rowC _ _ _ _ _ :: _) from hs.b1).row_at r1
            subst hg3
            have hpush : (PRE ++ nd.pg.sl.take (j + 1)).map (·.r) = (PRE ++ nd.pg.sl.take j).map (·.r) ++ [x.r] := by rw [List.take_add_one, hx]; simp
            have Hpush := Lib.hid hpush
            have kp := hs.k0
            have hs := hs.b2
            clear r0 r1 hpush hx
            go_wp2_with (at_builtin; refine append_st _ _ 57 23 _ (P + j) 1 8 _ [.int .u64 x.r] (.int .u64 0) iv hs rfl rfl Tryz.underlying57 Hi0.out Hi1.out Hi2.out Hi3.out rfl (by decide) rfl rfl rfl (fun u hu => by simp at hu; subst hu; rfl) (by omega) (by decide) ?_)
            clear hs kp c0
            intro v' w' hs
            obtain ⟨ao2, co2, hv, _, _⟩ := hs.row_read
            subst hv
            go_wp2
            go_roundw
            case rel =>
              have h2 := hs.re [1, 2, 0] rfl
              have e3 : u64Row ((PRE ++ nd.pg.sl.take (j + 1)).map (·.r)) = u64Row (PRE.map (·.r) ++ (nd.pg.sl.map (·.r)).take j) ++ [.int .u64 x.r] := by rw [Hpush.out, u64Row_push]; simp
              exact ⟨j + 1, ao2, co2, rfl, by go_num, by omega, by rw [e3]; exact h2⟩
            case measure => simp [intOf]; omega
          · obtain rfl : j = q := by omega
            rw [show nd.pg.sl.take j = nd.pg.sl from List.take_of_length_le (by rw [← Hq.out]; exact Nat.le_refl _)] at hs
            have kp := hs.k0
            have hs2 := hs.tail.tail
            clear hs
            have e1 := Hsucc.out
            rw [← Hq.out] at e1
            go_wp2
            go_roundw
            case rel => exact ⟨i + 1, ao, co, by rw [e1], by go_num, by omega, by rw [e1, Hpre.out]; exact hs2⟩
            case measure => simp [intOf]; omega
    · obtain rfl : i = m := by omega
      have e1 : slPos l i = (l.flatMap fun nd => nd.pg.sl).length := by rw [Hm.out, slPos_all]
      have e2 : l.take i = l := List.take_of_length_le (by rw [← Hm.out]; exact Nat.le_refl _)
      rw [e2] at hs
      have E1 := Lib.hid e1
      clear e1 e2
      go_wp2
      go_ret
      exact ⟨_, rfl, by rw [← E1.out]; exact hs.drop1.drop1⟩

end
end Go.Proofs.YtlpdhhhgckpcfaaGreat
