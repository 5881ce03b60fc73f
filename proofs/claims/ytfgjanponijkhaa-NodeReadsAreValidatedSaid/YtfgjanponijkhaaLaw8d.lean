/- The walk of NodeReadsAreValidated. -/
import Derived.Test.YtfgjanponijkhaaReadSt2
import Derived.Test.YtfgjanponijkhaaEffA
import Derived.Test.YtfgjanponijkhaaReadHist
namespace Go.Proofs.Ytfgjanponijkhaa
open Go.RowKit
set_option maxRecDepth 100000

section
variable {K : Know} {w : World} {ws : List Comp} {r s m h x v g l c w1 w2 w3 w4 : Comp}
theorem toW (k : St K w (r :: s :: m :: h :: x :: v :: g :: l :: c :: ws)) : St K w (m :: (ws ++ [r, s, h, x, v, g, l, c])) :=
  St.perm k.b2 ((List.perm_append_comm (l₁ := [r, s, h, x, v, g, l, c]) (l₂ := ws)).cons m)
theorem ofW (k : St K w (m :: (ws ++ [r, s, h, x, v, g, l, c]))) : St K w (r :: s :: m :: h :: x :: v :: g :: l :: c :: ws) :=
  (St.perm k ((List.perm_append_comm (l₁ := ws) (l₂ := [r, s, h, x, v, g, l, c])).cons m)).u2
end
theorem Sta.cases {K : Know} {w : World} {d : Cfg} {xs : Nat → Pg} {n rem : Nat} {v12 : Value} {bm bc bl bc0 bH m fr br : Nat} {v11 : Value} (h : Sta K d xs bm bc bl bc0 bH m n fr br rem v11 v12 w) :
    (v12 = .pointer none ∧ rem = 0) ∨ (∃ bw, v12 = .pointer (some ⟨bw, 0, none⟩) ∧ rem ≠ 0) := by
  obtain ⟨L, acc, now, c, ws, va, s, ha, hc, g, cp, l, _, _, h3, _⟩ := h
  rcases h3 with ⟨h, _, _, h0, _⟩ | ⟨bw, _, _, _, _, _, _, _, _, h, _, h0, _⟩
  · exact .inl ⟨h, h0⟩
  · exact .inr ⟨bw, h, by omega⟩
theorem WrI.cases {d : Cfg} {xs : Nat → Pg} {L : List Cel} {n c : Nat} {now : Int} {rem : Nat} {v12 : Value} {ws : List Comp} (h : WrI d xs L n c now rem v12 ws) : (v12 = .pointer none ∧ n = c) ∨ (∃ bw, v12 = .pointer (some ⟨bw, 0, none⟩) ∧ n = c + 1) := by
  rcases h with ⟨h, h0, _⟩ | ⟨bw, _, _, _, _, _, _, _, _, h, h0, _⟩
  · exact .inl ⟨h, h0.symm⟩
  · exact .inr ⟨bw, h, h0⟩
theorem WrI.le {d : Cfg} {xs : Nat → Pg} {L : List Cel} {n c : Nat} {now : Int} {rem : Nat} {v12 : Value} {ws : List Comp} (h : WrI d xs L n c now rem v12 ws) : c ≤ n := by
  rcases h.cases with ⟨_, h⟩ | ⟨_, _, h⟩ <;> omega
/-- Region 15: the next page (7), the new writer (8), its variable (9). -/
def ReΦ (d : Cfg) (x y : Pg) (word : Int) (e : Nat) (ρ : Nat → Option Value) (v : Value) (cs : List Comp) : Prop := match e with
  | 7 => ∃ (a : Option Addr) (c : Nat), v = .agg #[.int .i64 (y).lev, (.slice a y.sl.length c), .string (y).hi, .bool (y).la, .int .u64 (y).ri] ∧ cs = [rowC (.slice a (y).sl.length c) 132 2 (y).sl.length (slRow (y).sl)]
  | 8 => ∃ (bw2 b2 g2 cap2 : Nat) (va2 : Value) (mid ps2 : List Pt), v = .pointer (some ⟨bw2, 0, none⟩) ∧ Newer (pgPts d 1 x) (pgPts d 1 y) mid ∧ ps2 = ⟨d.node 1 0, ⟨ltBegin word, ⟨#[]⟩, 0⟩⟩ :: mid ++ [⟨d.node 1 0, ⟨ltEnd (ltBegin word), ⟨#[]⟩, 0⟩⟩] ∧
      cs = [wrC b2 1 (ltEnd (ltBegin word)) y va2 g2 cap2 ps2 0, rowC (.slice (some ⟨g2, 0, none⟩) ps2.length cap2) 178 4 ps2.length (ptRow ps2), blk bw2 (.cells #[.pointer (some ⟨b2, 0, none⟩)] 182), slC va2 y]
  | 9 => cs = [] ∧ ρ 8 = some v
  | _ => False
theorem ReΦ.mono {d : Cfg} {x y : Pg} {word : Int} : Mono [7, 8, 9] (ReΦ d x y word) := by
  intro e ρ v cs k u he hk h
  simp only [List.mem_cons, List.not_mem_nil, or_false] at he
  rcases he with rfl | rfl | rfl
  · exact h
  · exact h
  · refine ⟨h.1, ?_⟩
    unfold upd
    rw [if_neg (fun e => by have h2 := h.2; rw [e, hk] at h2; cases h2)]
    exact h.2
/-- Region 22: the reader's page (4) is among the last ones (5). -/
def RaΦ (x : Pg) (e : Nat) (_ρ : Nat → Option Value) (v : Value) (cs : List Comp) : Prop := match e with
  | 4 => ∃ (a : Option Addr) (c : Nat), v = .agg #[.int .i64 (x).lev, (.slice a x.sl.length c), .string (x).hi, .bool (x).la, .int .u64 (x).ri] ∧ cs = [rowC (.slice a (x).sl.length c) 132 2 (x).sl.length (slRow (x).sl)]
  | 5 => v = .bool true ∧ cs = []
  | _ => False
theorem RaΦ.mono {x : Pg} : Mono [4, 5] (RaΦ x) := by
  intro e ρ v cs k u he hk h
  exact h

theorem PagesIn.cells {w : World} {b off len : Nat} {z : Nat → PgD} (h : PagesIn w (some ⟨b, off, none⟩) len z) {i : Nat} (hi : i < len) :
    w.cell? ⟨b, off + i * 5, none⟩ = some (.int .i64 (z i).lev) ∧ w.cell? ⟨b, off + i * 5 + 1, none⟩ = some (.slice (z i).a (z i).len (z i).cap) ∧
    w.cell? ⟨b, off + i * 5 + 2, none⟩ = some (.string (z i).hi) ∧ w.cell? ⟨b, off + i * 5 + 3, none⟩ = some (.bool (z i).la) ∧ w.cell? ⟨b, off + i * 5 + 4, none⟩ = some (.int .u64 (z i).ri) := by
  obtain ⟨⟨b', off', e, _, r⟩, _⟩ := h.2 i hi
  simp only [Option.some.injEq, Addr.mk.injEq] at e
  obtain ⟨rfl, rfl, _⟩ := e
  exact r

/-- The law's pages, in order. -/
def xsOf (d : Cfg) (np : Nat) (z : Nat → PgD) : Nat → Pg
  | 0 => pgS
  | i + 1 => if i < np then ctPg d 0 (z i).len (z i).hi (z i).la (z i).ri (z i).f else pgS
theorem pgS_ok {d : Cfg} (hd : d.Ok) : PgOk d pgS := ⟨(by have := hd.fa1; show (0 : Int) ≤ _; omega), by decide, fun s h => (by cases h), fun s h => (by cases h), by decide, fun _ => rfl⟩
theorem xsOf_ok {d : Cfg} (hd : d.Ok) {w : World} {a : Option Addr} {np : Nat} {z : Nat → PgD} (h : PagesIn w a np z) : XsOk d (xsOf d np z) := by
  constructor
  · intro i
    match i with
    | 0 => exact pgS_ok hd
    | i + 1 =>
      show PgOk d (if i < np then ctPg d 0 (z i).len (z i).hi (z i).la (z i).ri (z i).f else pgS)
      split
      · rename_i hi; exact ctPg_ok hd (h.2 i hi).2
      · exact pgS_ok hd
  · intro i
    match i with
    | 0 => show 0 ≤ pgS.lev ∧ pgS.lev < 1000000; decide
    | i + 1 =>
      show 0 ≤ Pg.lev (if i < np then ctPg d 0 (z i).len (z i).hi (z i).la (z i).ri (z i).f else pgS) ∧ Pg.lev (if i < np then ctPg d 0 (z i).len (z i).hi (z i).la (z i).ri (z i).f else pgS) < 1000000
      split <;> exact ⟨by show (0 : Int) ≤ 0; omega, by show (0 : Int) < _; omega⟩

set_option maxHeartbeats 16000000 in
theorem nodeReadsAreValidated_walk (fanout : Int) (pa : Option Addr) (np pcap : Nat) (z : Nat → PgD) (qa : Option Addr) (lp qcap : Nat) (P : Nat → Int) (w : World) (hz : PagesIn w pa np z) (hq : RowIn .u8 w qa lp P) :
    Calls Try.prog 5 #[.int .i64 fanout, .slice pa np pcap, .slice qa lp qcap] w fun e w' => e = .returned (.bool true) ∧ Below w.heap.size w w' := by
  obtain ⟨d, hd, hno, Q1, Q2⟩ : ∃ d : Cfg, Hid d.Ok ∧ Hid (1 ≤ d.no) ∧ Hid (∀ w, Calls Try.prog 17 #[.int .i64 1, .int .i64 fanout] w fun e w' => e = .returned (.agg #[.int .i64 d.th, .int .i64 d.sn, .int .i64 d.no, .int .i64 d.ch, .int .i64 d.re, .int .i64 d.fa, .int .u64 d.cl]) ∧ Below w.heap.size w w') ∧ Hid (∀ w K cs, St K w cs → Calls Try.prog 18 #[.agg #[.int .i64 d.th, .int .i64 d.sn, .int .i64 d.no, .int .i64 d.ch, .int .i64 d.re, .int .i64 d.fa, .int .u64 d.cl]] w fun e w'' => ∃ bm bc, e = .returned (.tuple #[.agg #[.int .i64 d.th, .int .i64 d.sn, .int .i64 d.no, .int .i64 d.ch, .int .i64 d.re, .int .i64 d.fa, .int .u64 d.cl], .pointer (some ⟨bm, 0, none⟩)]) ∧ St K w'' (memC bm bc (startL d) 0 :: cs)) :=
    ⟨kitC 1 (4 + fanout % 3) 1000, Lib.hid (kit8_ok fanout), Lib.hid (by simp [kitC]), Lib.hid (fun w => kitConfig_any 1 fanout w), Lib.hid (fun w K cs hs => kitMemory_st (kit8_ok fanout) hs)⟩
  have f1 := hd.out.fa1
  have f2 := hd.out.fa2
  have Hx := Lib.hid (xsOf_ok hd.out hz)
  have Qc : Hid (∀ i, i < np → ∀ wz cs, St (Know.of w) wz cs → Calls Try.prog 20 #[.agg #[.int .i64 d.th, .int .i64 d.sn, .int .i64 d.no, .int .i64 d.ch, .int .i64 d.re, .int .i64 d.fa, .int .u64 d.cl], .agg #[.int .i64 (z i).lev, .slice (z i).a (z i).len (z i).cap, .string (z i).hi, .bool (z i).la, .int .u64 (z i).ri], .int .i64 0] wz fun e w' =>
      ∃ va, e = .returned (.agg #[.int .i64 ((xsOf d np z (i + 1))).lev, va, .string ((xsOf d np z (i + 1))).hi, .bool ((xsOf d np z (i + 1))).la, .int .u64 ((xsOf d np z (i + 1))).ri]) ∧ St (Know.of w) w' (rowC va 132 2 (xsOf d np z (i + 1)).sl.length (slRow (xsOf d np z (i + 1)).sl) :: cs)) := Lib.hid (by
    intro i hi wz cs hs
    have e : xsOf d np z (i + 1) = ctPg d 0 (z i).len (z i).hi (z i).la (z i).ri (z i).f := if_pos hi
    rw [e]
    exact content_st (level := 0) (la := (z i).la) hd.out hs ((hz.2 i hi).2.keep (hs.below (Know.Le.refl _))))
  have X0 : Hid (xsOf d np z 0 = pgS) := Lib.hid rfl
  generalize xsOf d np z = xs at *
  have Hz := Lib.hid hz
  have Hq := Lib.hid hq
  have Ql := Lib.hid (fun w => (ltLock_any 0 (by decide) (by decide) w).mono (by rintro e w' ⟨rfl, rfl⟩; exact And.intro rfl (Below.refl _ _) : ∀ e w', _ → (e = .returned (.int .u64 (ltLock 0)) ∧ Below w.heap.size w w')))
  have Qn := Lib.hid (fun w => refNode_any d hd.out 1 0 (by omega) (by omega) (by omega) (by omega) w)
  have hs := St.start w
  clear hz hq
  go_enter Try.func5, Try.ntmps5
  go_wp2_with fail
  refine (calls_same hs (Q1.out _)).mono ?_
  clear hs
  rintro e w1 ⟨rfl, hs⟩
  have hs := hs.made (.cells #[.int .i64 d.th, .int .i64 d.sn, .int .i64 d.no, .int .i64 d.ch, .int .i64 d.re, .int .i64 d.fa, .int .u64 d.cl] 27)
  obtain ⟨bc0, hbc0⟩ : ∃ bc0, bc0 = w1.heap.size := ⟨_, rfl⟩
  have kc := hs.k0
  go_wp2_with fail
  rw [← hbc0] at hs kc ⊢
  clear hbc0
  refine (Q2.out _ _ _ hs).mono ?_
  clear hs kc
  rintro e w2 ⟨bm, bc, rfl, hs⟩
  have hs := hs.made (.cells #[.int .i64 d.th, .int .i64 d.sn, .int .i64 d.no, .int .i64 d.ch, .int .i64 d.re, .int .i64 d.fa, .int .u64 d.cl] 30)
  obtain ⟨bl, hbl⟩ : ∃ bl, bl = w2.heap.size := ⟨_, rfl⟩
  go_wp2_with fail
  rw [← hbl] at hs ⊢
  clear hbl
  refine (awake8_st hs).mono ?_
  clear hs
  rintro e w3 ⟨rfl, hs⟩
  by_cases h8 : np ≤ 8
  case neg =>
    go_wp2_with fail
    refine (awake8_st hs).mono ?_
    rintro e w4 ⟨rfl, hs⟩
    go_wp2
    go_ret
    exact ⟨rfl, hs.below (Know.Le.refl _)⟩
  by_cases h3 : lp ≤ 300
  case neg =>
    go_wp2_with fail
    refine (awake8_st hs).mono ?_
    rintro e w4 ⟨rfl, hs⟩
    go_wp2
    go_ret
    exact ⟨rfl, hs.below (Know.Le.refl _)⟩
  go_wp2_with fail
  refine (calls_same hs (Ql.out _)).mono ?_
  clear hs
  rintro e w4 ⟨rfl, hs⟩
  have hs := hs.made (.cells #[.int .u64 1, .int .u64 (ltLock 0), .int .i64 0, .slice none 0 0, .string ⟨#[]⟩, .bool true, .int .u64 0] 74)
  obtain ⟨bH, hbH⟩ : ∃ bH, bH = w4.heap.size := ⟨_, rfl⟩
  have kc := hs.b3.k0
  go_wp2_with fail
  rw [← hbH] at hs ⊢
  clear hbH
  refine (calls_same hs (Qn.out _)).mono ?_
  clear hs kc
  rintro e w5 ⟨rfl, hs⟩
  go_wp2_with fail
  refine (calls_same hs (Ql.out _)).mono ?_
  clear hs
  rintro e w6 ⟨rfl, hs⟩
  go_wp2_with fail
  refine (poke_st (i := d.node 1 0) (c := ⟨ltLock 0, ⟨#[]⟩, 0⟩) hs.b2).mono ?_
  clear hs
  rintro e w7 ⟨rfl, hs⟩
  have kh := hs.k1
  have hs := hs.made (.cells #[.int .i64 0, .slice none 0 0, .string ⟨#[]⟩, .bool true, .int .u64 0] 25)
  have kl := hs.b3.k0
  obtain ⟨bh, hbh⟩ : ∃ bh, bh = w7.heap.size := ⟨_, rfl⟩
  go_wp2_with fail
  rw [← hbh] at hs ⊢
  clear hbh kh kl
  refine (newRead_st (d := d) (id := 1) hs).mono ?_
  clear hs
  rintro e w8 ⟨br, rfl, hs⟩
  have hS := Sta.start hd.out hno.out X0.out (show St (Know.of w) w8 (rdC br d 1 (.slice none 0 0) rd0 :: slC (.slice none 0 0) pg0 :: blk bh _ :: memC bm bc _ 0 :: blk bH _ :: blk bl (.cells #[.int .i64 d.th, .int .i64 d.sn, .int .i64 d.no, .int .i64 d.ch, .int .i64 d.re, .int .i64 d.fa, .int .u64 d.cl] 30) :: blk bc0 (.cells #[.int .i64 d.th, .int .i64 d.sn, .int .i64 d.no, .int .i64 d.ch, .int .i64 d.re, .int .i64 d.fa, .int .u64 d.cl] 27) :: []) from hs)
  clear hs
  go_wp2
  go_loopw [11, 12, 13, 14, 15, 16] (fun v11 v12 v13 v14 v15 v16 wr => ∃ (k n m fr br rem : Nat) (x11 x12 : Value), v11 = x11 ∧ v12 = x12 ∧ k ≤ lp + 900 ∧ n ≤ np ∧ m ≤ 2 * k ∧ Hid (40 * (np - n) + rem = 0 ∨ 40 * (np - n) + rem + (k - lp) ≤ 320) ∧ v13 = .pointer (some ⟨br, 0, none⟩) ∧ v14 = .int .i64 fr ∧ v15 = .int .i64 n ∧ v16 = .int .i64 k ∧
    Sta (Know.of w) d xs bm bc bl bc0 bH m n fr br rem x11 x12 wr) (fun _ _ _ _ _ v _ => 2000 - (intOf v).toNat)
  case atStart => exact ⟨0, 0, 0, 0, br, 0, _, _, rfl, rfl, by omega, by omega, by omega, Lib.hid (by omega), rfl, rfl, rfl, rfl, hS⟩
  case round =>
    clear hS
    obtain ⟨k, n, m, fr, br, rem, x11, x12, e11, e12, hk, hn, hm, Hb, rfl, rfl, rfl, rfl, hS⟩ := hrel
    obtain rfl := e11.symm
    obtain rfl := e12.symm
    by_cases hlt : k < lp + 900
    · have hm2 : m ≤ 2400 := by omega
      go_upto_region 13 with (fail)
      go_cut [77] (fun v77 wx => ∃ b : Bool, v77 = .bool b ∧ Hid (lp ≤ k → b = true) ∧ Sta (Know.of w) d xs bm bc bl bc0 bH m n fr br rem x11 x12 wx)
      case first =>
        as_aux_lemma =>
        by_cases hkp : k < lp
        · obtain ⟨qb, qoff, rfl, hqlt, kq, wq⟩ := Hq.out.2 k hkp
          rw [← (hS.below).cell (p := ⟨qb, qoff + k, none⟩) hqlt] at kq
          generalize P k = pk at *
          have wq := wf_u8 wq
          obtain ⟨wq1, wq2⟩ := wq
          go_wp2
          go_meet
          exact ⟨_, rfl, Lib.hid (fun h => by omega), hS⟩
        · go_wp2
          go_meet
          exact ⟨true, rfl, Lib.hid (fun _ => rfl), hS⟩
      case rest =>
        clear hS
        obtain ⟨b1, rfl, Hb1, hS⟩ := hcut
        apply_assumption
        go_cut [11, 12, 15] (fun v11 v12 v15 wx => ∃ (n' rem' : Nat) (x11' x12' : Value), v11 = x11' ∧ v12 = x12' ∧ v15 = .int .i64 n' ∧ n' ≤ np ∧ Hid ((40 * (np - n') + rem') ≤ (40 * (np - n) + rem) ∧ (lp ≤ k → (40 * (np - n) + rem) = 0 ∨ (40 * (np - n') + rem') < (40 * (np - n) + rem))) ∧ Sta (Know.of w) d xs bm bc bl bc0 bH (m + 1) n' fr br rem' x11' x12' wx)
        case first =>
          as_aux_lemma =>
          cases b1 with
          | false =>
            go_wp2
            go_meet
            exact ⟨n, rem, x11, x12, rfl, rfl, rfl, hn, Lib.hid ⟨Nat.le_refl _, fun h => absurd (Hb1.out h) (by simp)⟩, hS.mono (by omega)⟩
          | true =>
            go_upto_region 14 with (fail)
            go_cut [85] (fun v85 wx => v85 = .bool (decide (rem = 0 ∧ n < np)) ∧ Sta (Know.of w) d xs bm bc bl bc0 bH m n fr br rem x11 x12 wx)
            case first =>
              as_aux_lemma =>
              rcases hS.cases with ⟨rfl, rfl⟩ | ⟨bw, rfl, h0⟩
              · by_cases hnp : n < np
                · go_wp2
                  go_meet
                  exact ⟨by simp [hnp], hS⟩
                · go_wp2
                  go_meet
                  exact ⟨by simp [hnp], hS⟩
              · go_wp2
                go_meet
                exact ⟨by simp [h0], hS⟩
            case rest =>
              clear hS
              obtain ⟨rfl, hS⟩ := hcut
              apply_assumption
              go_cut [11, 12, 15] (fun v11 v12 v15 wx => ∃ (n' rem' : Nat) (x11' x12' : Value), v11 = x11' ∧ v12 = x12' ∧ v15 = .int .i64 n' ∧ n' ≤ np ∧ Hid ((40 * (np - n') + rem') ≤ (40 * (np - n) + rem) ∧ (rem' = 0 → n' = np)) ∧ Sta (Know.of w) d xs bm bc bl bc0 bH m n' fr br rem' x11' x12' wx)
              case first =>
                as_aux_lemma =>
                by_cases hg : rem = 0 ∧ n < np
                case neg =>
                  rw [decide_eq_false hg]
                  go_wp2
                  go_meet
                  exact ⟨n, rem, x11, x12, rfl, rfl, rfl, hn, Lib.hid ⟨Nat.le_refl _, fun h => by omega⟩, hS⟩
                rw [decide_eq_true hg]
                obtain ⟨h0, hnp⟩ := hg
                obtain ⟨L, acc, now, c, ws, va, s, ha, hc, g, cp, l, hacc, rfl, hW, hR, hHi, hs⟩ := hS
                rcases hW with ⟨rfl, rfl, rfl, _, rfl, hNo⟩ | ⟨_, _, _, _, _, _, _, _, _, _, _, h, _⟩
                case inr => omega
                subst h0
                obtain ⟨⟨pb, poff, rfl, _⟩, _⟩ := Hz.out.2 c hnp
                have HNo := Lib.hid hNo
                have HR := Lib.hid hR
                have HHi := Lib.hid hHi
                clear hNo hR hHi
                go_upto_region 15 with (fail)
                go_cut [12] (fun v12 wx => ∃ (bw2 b2 g2 cap2 : Nat) (va2 : Value) (mid ps2 : List Pt), v12 = .pointer (some ⟨bw2, 0, none⟩) ∧ Hid (Newer (pgPts d 1 (xs c)) (pgPts d 1 (xs (c + 1))) mid) ∧ Hid (ps2 = ⟨d.node 1 0, ⟨ltBegin (wd c), ⟨#[]⟩, 0⟩⟩ :: mid ++ [⟨d.node 1 0, ⟨ltEnd (ltBegin (wd c)), ⟨#[]⟩, 0⟩⟩]) ∧
                  St (Know.of w) wx (wrC b2 1 (ltEnd (ltBegin (wd c))) (xs (c + 1)) va2 g2 cap2 ps2 0 :: rowC (.slice (some ⟨g2, 0, none⟩) ps2.length cap2) 178 4 ps2.length (ptRow ps2) :: blk bw2 (.cells #[.pointer (some ⟨b2, 0, none⟩)] 182) :: slC va2 (xs (c + 1)) :: [rdC br d 1 va s, slC va s.pg, memC bm bc L acc, blk bH (.cells #[.int .u64 1, .int .u64 (wd c), .int .i64 ((xs c)).lev, (.slice ha ((xs c)).sl.length hc), .string ((xs c)).hi, .bool ((xs c)).la, .int .u64 ((xs c)).ri] 74), rowC (.slice ha ((xs c)).sl.length hc) 132 2 ((xs c)).sl.length (slRow ((xs c)).sl), rowC (.slice (some ⟨g, 0, none⟩) (c + 1) cp) 25 5 (c + 1) (pgRow l), group (l.map slP), blk bl (.cells #[.int .i64 d.th, .int .i64 d.sn, .int .i64 d.no, .int .i64 d.ch, .int .i64 d.re, .int .i64 d.fa, .int .u64 d.cl] 30), blk bc0 (.cells #[.int .i64 d.th, .int .i64 d.sn, .int .i64 d.no, .int .i64 d.ch, .int .i64 d.re, .int .i64 d.fa, .int .u64 d.cl] 27)]))
                case first =>
                  -- <R15
                  as_aux_lemma =>
                  have Hs := Lib.hid hs
                  clear hs
                  have hsx : (xs c).sl.length ≤ 100 := by have := (Hx.out.pg c).le; omega
                  refine region_effects [false, false, false, false, false, false, false, true, true, true] [7, 8, 9] (fun | 8 => [7] | 9 => [8] | _ => [])
                    (GR (Know.of w) [rdC br d 1 va s, slC va s.pg, memC bm bc L acc, blk bH (.cells #[.int .u64 1, .int .u64 (wd c), .int .i64 ((xs c)).lev, (.slice ha ((xs c)).sl.length hc), .string ((xs c)).hi, .bool ((xs c)).la, .int .u64 ((xs c)).ri] 74), rowC (.slice ha ((xs c)).sl.length hc) 132 2 ((xs c)).sl.length (slRow ((xs c)).sl), rowC (.slice (some ⟨g, 0, none⟩) (c + 1) cp) 25 5 (c + 1) (pgRow l), group (l.map slP), blk bl (.cells #[.int .i64 d.th, .int .i64 d.sn, .int .i64 d.no, .int .i64 d.ch, .int .i64 d.re, .int .i64 d.fa, .int .u64 d.cl] 30), blk bc0 (.cells #[.int .i64 d.th, .int .i64 d.sn, .int .i64 d.no, .int .i64 d.ch, .int .i64 d.re, .int .i64 d.fa, .int .u64 d.cl] 27)] [7, 8, 9] (ReΦ d (xs c) (xs (c + 1)) (wd c)))
                    (fun W => St (Know.of w) W [rdC br d 1 va s, slC va s.pg, memC bm bc L acc, blk bH (.cells #[.int .u64 1, .int .u64 (wd c), .int .i64 ((xs c)).lev, (.slice ha ((xs c)).sl.length hc), .string ((xs c)).hi, .bool ((xs c)).la, .int .u64 ((xs c)).ri] 74), rowC (.slice ha ((xs c)).sl.length hc) 132 2 ((xs c)).sl.length (slRow ((xs c)).sl), rowC (.slice (some ⟨g, 0, none⟩) (c + 1) cp) 25 5 (c + 1) (pgRow l), group (l.map slP), blk bl (.cells #[.int .i64 d.th, .int .i64 d.sn, .int .i64 d.no, .int .i64 d.ch, .int .i64 d.re, .int .i64 d.fa, .int .u64 d.cl] 30), blk bc0 (.cells #[.int .i64 d.th, .int .i64 d.sn, .int .i64 d.no, .int .i64 d.ch, .int .i64 d.re, .int .i64 d.fa, .int .u64 d.cl] 27)]) ?aS (by kernel_rfl) ?hB ?H ?haS ?h0 ?hI ?hR ?hE ?hQ
                  case hB => as_aux_lemma => kernel_rfl
                  case H =>
                    intro W2 hs
                    have kh := hs.b3.k0
                    have kl := hs.b7.k0
                    have kc := hs.b8.k0
                    obtain ⟨c0, c1, c2, c3, c4⟩ := (Hz.out.keep (hs.below (Know.Le.refl _))).cells hnp
                    clear hs
                    simp only [withM]
                    repeat (go_big_quiet_step (fail))
                    refine wpQuiet_nil ?_
                    rfl
                  case haS => rfl
                  case h0 => exact GR.start Hs.out
                  case hI => exact fun ρ W2 h => h.rest
                  case hR => exact fun ρ W2 W3 h hb => h.same hb
                  case hE =>
                    refine ⟨?e7, ?e8, ?e9, trivial⟩
                    case e7 =>
                      intro o ho ρ W2 h hcl h7 hd2 af haf
                      obtain rfl := Option.some.inj ho
                      replace haf : af = fillD _ ρ [] _ := haf
                      obtain ⟨C, R', h1, hs, hnext⟩ := h.step ReΦ.mono 7 [] (by decide) (by decide) (by decide) h7 (by simp)
                      simp only [fillD] at haf
                      subst haf
                      go_wp2_with fail
                      refine (Qc.out c hnp _ _ hs).mono ?_
                      rintro e W3 ⟨va3, rfl, hs'⟩
                      obtain ⟨a3, c3, rfl, _, _⟩ := hs'.row_read
                      go_wp2
                      exact ⟨rfl, _, rfl, hnext _ _ W3 ⟨a3, c3, rfl, rfl⟩ hs'⟩
                    case e8 =>
                      intro o ho ρ W2 h hcl h8 hd2 af haf
                      obtain rfl := Option.some.inj ho
                      replace haf : af = fillD _ ρ [7] _ := haf
                      obtain ⟨v7, h7⟩ := Option.isSome_iff_exists.1 (hd2 7 (by show _ ∈ [7]; simp))
                      obtain ⟨C, R', h1, hs, hnext⟩ := h.step ReΦ.mono 8 [7] (by decide) (by decide) (by decide) h8 (by simp [h7])
                      obtain ⟨a3, c3, rfl, hc⟩ := h1 7 v7 (by simp) h7
                      rw [show [7].flatMap C = [rowC (.slice a3 ((xs (c + 1))).sl.length c3) 132 2 ((xs (c + 1))).sl.length (slRow ((xs (c + 1))).sl)] by simp [hc]] at hs hnext
                      simp only [fillD, h7, Option.getD_some, dstAt, List.getElem?_cons_succ, List.getElem?_cons_zero, Option.bind_some, Option.bind_none, Act.put, List.setIfInBounds_toArray, List.set_cons_zero, List.set_cons_succ] at haf
                      subst haf
                      go_wp2_with fail
                      refine (newWrite_st hd.out (id := 1) (word := wd c) (by omega) hno.out (wd_facts c (by omega)).1 (Hx.out.pg _) (Hx.out.pg _) (Hx.out.lev _) (Hx.out.lev _) hs.b5).mono ?_
                      rintro e W3 ⟨bw2, b2, g2, cap2, va2, mid, ps2, rfl, hnew, hps2', hs'⟩
                      go_wp2
                      exact ⟨rfl, _, rfl, hnext _ _ W3 ⟨bw2, b2, g2, cap2, va2, mid, ps2, rfl, hnew, hps2', rfl⟩ hs'.b4.u9⟩
                    case e9 =>
                      intro o ho ρ W2 h hcl h9 hd2 af haf
                      obtain rfl := Option.some.inj ho
                      replace haf : af = fillD _ ρ [8] _ := haf
                      obtain ⟨v8, h8⟩ := Option.isSome_iff_exists.1 (hd2 8 (by show _ ∈ [8]; simp))
                      simp only [fillD, h8, Option.getD_some, dstAt, List.getElem?_cons_succ, List.getElem?_cons_zero, Option.bind_some, Option.bind_none, Act.put, List.setIfInBounds_toArray, List.set_cons_zero, List.set_cons_succ] at haf
                      subst haf
                      go_wp2
                      exact ⟨rfl, _, rfl, h.know ReΦ.mono 9 (by decide) (by simp) h9 _ ⟨rfl, by simp [upd, h8]⟩⟩
                  case hQ =>
                    intro ρ W2 h hall
                    obtain ⟨C, h1, hs⟩ := h.last hall
                    obtain ⟨v7, h7, a3, c3, rfl, hc7⟩ := h1 7 (by simp)
                    obtain ⟨v8, h8, bw2, b2, g2, cap2, va2, mid, ps2, rfl, hnew, hps2', hc8⟩ := h1 8 (by simp)
                    obtain ⟨v9, h9, hc9, h89⟩ := h1 9 (by simp)
                    obtain rfl := Option.some.inj (h8.symm.trans h89)
                    simp only [fillD, h7, h8, h9, Option.getD_some, dstAt, List.getElem?_cons_succ, List.getElem?_cons_zero, Option.bind_some, Option.bind_none, Act.put, List.setIfInBounds_toArray, List.set_cons_zero, List.set_cons_succ]
                    go_wp2
                    go_meet
                    simp only [List.flatMap_cons, List.flatMap_nil, hc7, hc8, hc9, List.nil_append, List.append_nil, List.cons_append] at hs
                    exact ⟨bw2, b2, g2, cap2, va2, mid, ps2, rfl, Lib.hid hnew, Lib.hid hps2', hs.tail⟩
                  -- R15>
                case rest =>
                  clear hs
                  obtain ⟨bw2, b2, g2, cap2, va2, mid, ps2, rfl, Hnew, Hps, hs⟩ := hcut
                  have hs := hs.b9
                  go_upto_region 16 with (fail)
                  go_cut [11] (fun v11 wx => ∃ (a3 : Option Addr) (c3 g' cp' : Nat), v11 = .slice (some ⟨g', 0, none⟩) (c + 2) cp' ∧
                    St (Know.of w) wx (rowC (.slice a3 ((xs (c + 1))).sl.length c3) 132 2 ((xs (c + 1))).sl.length (slRow ((xs (c + 1))).sl) :: rowC (.slice (some ⟨g', 0, none⟩) (c + 2) cp') 25 5 (c + 2) (pgRow (l ++ [(xs (c + 1), a3, c3)])) :: [wrC b2 1 (ltEnd (ltBegin (wd c))) (xs (c + 1)) va2 g2 cap2 ps2 0, rowC (.slice (some ⟨g2, 0, none⟩) ps2.length cap2) 178 4 ps2.length (ptRow ps2), blk bw2 (.cells #[.pointer (some ⟨b2, 0, none⟩)] 182), slC va2 (xs (c + 1)), rdC br d 1 va s, slC va s.pg, memC bm bc L acc, blk bH (.cells #[.int .u64 1, .int .u64 (wd c), .int .i64 ((xs c)).lev, (.slice ha ((xs c)).sl.length hc), .string ((xs c)).hi, .bool ((xs c)).la, .int .u64 ((xs c)).ri] 74), rowC (.slice ha ((xs c)).sl.length hc) 132 2 ((xs c)).sl.length (slRow ((xs c)).sl), group (l.map slP), blk bl (.cells #[.int .i64 d.th, .int .i64 d.sn, .int .i64 d.no, .int .i64 d.ch, .int .i64 d.re, .int .i64 d.fa, .int .u64 d.cl] 30), blk bc0 (.cells #[.int .i64 d.th, .int .i64 d.sn, .int .i64 d.no, .int .i64 d.ch, .int .i64 d.re, .int .i64 d.fa, .int .u64 d.cl] 27)]))
                  case first =>
                    -- <R16
                    as_aux_lemma =>
                    have Hs := Lib.hid hs
                    clear hs
                    obtain ⟨iv, hiv0, hiv1, hiv2, hiv3⟩ := info_parts infoPage
                    have Hi0 := Lib.hid hiv0
                    have Hi1 := Lib.hid hiv1
                    have Hi2 := Lib.hid hiv2
                    have Hi3 := Lib.hid hiv3
                    clear hiv0 hiv1 hiv2 hiv3
                    refine region_effects [false, false, false, false, false, false, true, true, true, true] [6, 7, 8, 9] (fun | 7 => [6] | 8 => [7] | 9 => [8] | _ => [])
                      (HsR (Know.of w) [wrC b2 1 (ltEnd (ltBegin (wd c))) (xs (c + 1)) va2 g2 cap2 ps2 0, rowC (.slice (some ⟨g2, 0, none⟩) ps2.length cap2) 178 4 ps2.length (ptRow ps2), blk bw2 (.cells #[.pointer (some ⟨b2, 0, none⟩)] 182), slC va2 (xs (c + 1)), rdC br d 1 va s, slC va s.pg, memC bm bc L acc, blk bH (.cells #[.int .u64 1, .int .u64 (wd c), .int .i64 ((xs c)).lev, (.slice ha ((xs c)).sl.length hc), .string ((xs c)).hi, .bool ((xs c)).la, .int .u64 ((xs c)).ri] 74), rowC (.slice ha ((xs c)).sl.length hc) 132 2 ((xs c)).sl.length (slRow ((xs c)).sl), group (l.map slP), blk bl (.cells #[.int .i64 d.th, .int .i64 d.sn, .int .i64 d.no, .int .i64 d.ch, .int .i64 d.re, .int .i64 d.fa, .int .u64 d.cl] 30), blk bc0 (.cells #[.int .i64 d.th, .int .i64 d.sn, .int .i64 d.no, .int .i64 d.ch, .int .i64 d.re, .int .i64 d.fa, .int .u64 d.cl] 27)] (.slice (some ⟨g, 0, none⟩) (c + 1) cp) (c + 1) (xs (c + 1)) l)
                      (fun W => St (Know.of w) W [wrC b2 1 (ltEnd (ltBegin (wd c))) (xs (c + 1)) va2 g2 cap2 ps2 0, rowC (.slice (some ⟨g2, 0, none⟩) ps2.length cap2) 178 4 ps2.length (ptRow ps2), blk bw2 (.cells #[.pointer (some ⟨b2, 0, none⟩)] 182), slC va2 (xs (c + 1)), rdC br d 1 va s, slC va s.pg, memC bm bc L acc, blk bH (.cells #[.int .u64 1, .int .u64 (wd c), .int .i64 ((xs c)).lev, (.slice ha ((xs c)).sl.length hc), .string ((xs c)).hi, .bool ((xs c)).la, .int .u64 ((xs c)).ri] 74), rowC (.slice ha ((xs c)).sl.length hc) 132 2 ((xs c)).sl.length (slRow ((xs c)).sl), group (l.map slP), blk bl (.cells #[.int .i64 d.th, .int .i64 d.sn, .int .i64 d.no, .int .i64 d.ch, .int .i64 d.re, .int .i64 d.fa, .int .u64 d.cl] 30), blk bc0 (.cells #[.int .i64 d.th, .int .i64 d.sn, .int .i64 d.no, .int .i64 d.ch, .int .i64 d.re, .int .i64 d.fa, .int .u64 d.cl] 27)]) ?aSs (by kernel_rfl) ?hBs ?Hs ?haSs ?h0s ?hIs ?hRs ?hEs ?hQs
                    case hBs => as_aux_lemma => kernel_rfl
                    case Hs =>
                      intro W2 hs
                      have kc := hs.b11.k0
                      obtain ⟨c0, c1, c2, c3, c4⟩ := (Hz.out.keep (hs.below (Know.Le.refl _))).cells hnp
                      clear hs
                      simp only [withM]
                      repeat (go_big_quiet_step (fail))
                      refine wpQuiet_nil ?_
                      rfl
                    case haSs => rfl
                    case h0s => exact HsR.start Hs.out
                    case hIs => exact fun ρ W2 h => h.rest
                    case hRs => exact fun ρ W2 W3 h hb => h.same hb
                    case hEs =>
                      refine ⟨?e6s, ?e7s, ?e8s, ?e9s, trivial⟩
                      case e6s =>
                        intro o ho ρ W2 h hcl h6 hd2 af haf
                        obtain rfl := Option.some.inj ho
                        replace haf : af = fillD _ ρ [] _ := haf
                        have h7 : ρ 7 = none := hcl.none (by simp) (show 6 ∈ [6] by simp) h6
                        have h8 : ρ 8 = none := hcl.none (by simp) (show 7 ∈ [7] by simp) h7
                        obtain ⟨R', hs, hnext⟩ := h.e6 h6 h7 h8
                        simp only [fillD] at haf
                        subst haf
                        go_wp2_with fail
                        refine (Qc.out c hnp _ _ hs).mono ?_
                        rintro e W3 ⟨va3, rfl, hs'⟩
                        obtain ⟨a3, c3, rfl, _, _⟩ := hs'.row_read
                        go_wp2
                        exact ⟨rfl, _, rfl, hnext a3 c3 W3 hs'⟩
                      case e7s =>
                        intro o ho ρ W2 h hcl h7 hd2 af haf
                        obtain rfl := Option.some.inj ho
                        replace haf : af = fillD _ ρ [6] _ := haf
                        obtain ⟨v6, h6⟩ := Option.isSome_iff_exists.1 (hd2 6 (by show _ ∈ [6]; simp))
                        have h8 : ρ 8 = none := hcl.none (by simp) (show 7 ∈ [7] by simp) h7
                        obtain ⟨a3, c3, rfl, hnext⟩ := h.e7 h6 h7 h8
                        simp only [fillD, h6, Option.getD_some, dstAt, List.getElem?_cons_succ, List.getElem?_cons_zero, Option.bind_some, Option.bind_none, Act.put, List.setIfInBounds_toArray, List.set_cons_zero, List.set_cons_succ] at haf
                        subst haf
                        clear h h6 h7 h8 hcl hd2
                        have Hn := Lib.hid hnext
                        clear hnext
                        go_wp2
                        exact ⟨rfl, _, rfl, Hn.out⟩
                      case e8s =>
                        intro o ho ρ W2 h hcl h8 hd2 af haf
                        obtain rfl := Option.some.inj ho
                        replace haf : af = fillD _ ρ [7] _ := haf
                        obtain ⟨v7, h7⟩ := Option.isSome_iff_exists.1 (hd2 7 (by show _ ∈ [7]; simp))
                        obtain ⟨v6, h6⟩ := Option.isSome_iff_exists.1 (hcl 7 (by simp) (by rw [h7]; rfl) 6 (by show _ ∈ [6]; simp))
                        obtain ⟨a3, c3, b3, R', rfl, hs, hcell, hnext⟩ := h.e8 h6 h7 h8
                        simp only [fillD, h7, Option.getD_some, dstAt, List.getElem?_cons_succ, List.getElem?_cons_zero, Option.bind_some, Option.bind_none, Act.put, List.setIfInBounds_toArray, List.set_cons_zero, List.set_cons_succ] at haf
                        subst haf
                        refine append_row_st _ _ 71 25 _ (c + 1) 1 1 5 64 _ [.int .i64 ((xs (c + 1))).lev, (.slice a3 (xs (c + 1)).sl.length c3), .string ((xs (c + 1))).hi, .bool ((xs (c + 1))).la, .int .u64 ((xs (c + 1))).ri] (.agg #[.int .i64 0, .slice none 0 0, .string ⟨#[]⟩, .bool false, .int .u64 0]) iv (some ⟨b3, 0, none⟩) hs rfl rfl Try.underlying71 Hi0.out Hi1.out Hi2.out Hi3.out rfl (by decide) rfl rfl rfl (fun e => by cases e) (fun j u hu => ⟨b3, 0, rfl, by rw [Nat.zero_add]; exact hcell j u hu⟩) (fun u hu => by simp at hu; rcases hu with rfl | rfl | rfl | rfl | rfl <;> rfl) (by omega) (by decide) ?_
                        intro v' w' hs'
                        exact ⟨rfl, _, rfl, hnext v' w' hs'⟩
                      case e9s =>
                        intro o ho ρ W2 h hcl h9 hd2 af haf
                        obtain rfl := Option.some.inj ho
                        replace haf : af = fillD _ ρ [8] _ := haf
                        obtain ⟨v8, h8⟩ := Option.isSome_iff_exists.1 (hd2 8 (by show _ ∈ [8]; simp))
                        simp only [fillD, h8, Option.getD_some, dstAt, List.getElem?_cons_succ, List.getElem?_cons_zero, Option.bind_some, Option.bind_none, Act.put, List.setIfInBounds_toArray, List.set_cons_zero, List.set_cons_succ] at haf
                        subst haf
                        go_wp2
                        exact ⟨rfl, _, rfl, h.e9 h8⟩
                    case hQs =>
                      intro ρ W2 h hall
                      obtain ⟨a3, c3, g', cp', h8, h9, ⟨v6, h6⟩, ⟨v7, h7⟩, hs⟩ := h.last hall
                      simp only [fillD, h6, h7, h8, h9, Option.getD_some, dstAt, List.getElem?_cons_succ, List.getElem?_cons_zero, Option.bind_some, Option.bind_none, Act.put, List.setIfInBounds_toArray, List.set_cons_zero, List.set_cons_succ]
                      go_wp2
                      go_meet
                      exact ⟨a3, c3, g', cp', rfl, hs⟩
                    -- R16>
                  case rest =>
                    clear hs
                    obtain ⟨a3, c3, g', cp', rfl, hs⟩ := hcut
                    have hlen : ps2.length = mid.length + 2 := by rw [Hps.out]; simp
                    have hmid : mid.length ≤ 36 := by
                      have h1 := Hnew.out.1.length_le
                      have h2 : (pgPts d 1 (xs (c + 1))).length = (xs (c + 1)).sl.length + 3 := by simp [pgPts, slPts_length]
                      have h3 := (Hx.out.pg (c + 1)).le
                      omega
                    have Hlen := Lib.hid (And.intro hlen hmid)
                    clear hlen hmid
                    have hs := hs.b11
                    have hs := push_slP hs.b1
                    go_wp2
                    go_meet
                    exact ⟨c + 1, ps2.length, _, .pointer (some ⟨bw2, 0, none⟩), rfl, rfl, by go_num, by omega, Lib.hid (by have := Hlen.out; omega), L, acc, wd c, c, _, va, s, ha, hc, g', cp', _, hacc, rfl, .inr ⟨bw2, b2, g2, cap2, 0, va2, L, mid, ps2, rfl, rfl, by have := Hlen.out; omega, by omega, rfl, HNo.out, Hnew.out, Hps.out, rfl, rfl⟩, HR.out, HHi.out.push a3 c3, hs.u10.u9.u12.u12.u12.u12⟩
              case rest =>
                clear hS
                obtain ⟨n', rem', x11', x12', e11, e12, rfl, hn', Ht, hS⟩ := hcut
                obtain rfl := e11.symm
                obtain rfl := e12.symm
                rcases hS.cases with ⟨rfl, rfl⟩ | ⟨bw, rfl, h0⟩
                · go_wp2
                  go_meet
                  exact ⟨n', 0, x11', _, rfl, rfl, rfl, hn', Lib.hid (by have h := Ht.out; have h2 := h.2 (by simp); omega), hS.mono (by omega)⟩
                · -- <R18
                  obtain ⟨L, acc, now, c, ws, va, s, ha, hc, g, cp, l, hacc, rfl, hW, hR, hHi, hs⟩ := hS
                  obtain ⟨bw', e, hw⟩ := writer_st hd.out hno.out Hx.out (show n' < 9 by omega) (by omega) hR hW (by omega) (toW hs)
                  obtain rfl : bw = bw' := by simpa using e
                  have HHi := Lib.hid hHi
                  clear hW hR hHi hs e
                  rcases hw with ⟨h2, q⟩ | ⟨h1, rfl, q⟩
                  · have Q := Lib.hid q
                    clear q
                    go_wp2_with fail
                    refine (Q.out).mono ?_
                    clear Q
                    rintro e w9 ⟨rfl, L', now', ws', hW, hR, hs⟩
                    have HW := Lib.hid hW
                    have HR := Lib.hid hR
                    clear hW hR
                    go_wp2
                    go_meet
                    exact ⟨n', rem' - 1, _, _, rfl, rfl, rfl, hn', Lib.hid (by have h := Ht.out; omega), L', acc + 1, now', c, ws', va, s, ha, hc, g, cp, l, by omega, rfl, HW.out, HR.out, HHi.out, ofW hs⟩
                  · have Q := Lib.hid q
                    clear q
                    go_wp2_with fail
                    refine (Q.out).mono ?_
                    clear Q
                    rintro e w9 ⟨rfl, L', b', g', cap', ps', a', c', hNo, hR, hs⟩
                    have HNo := Lib.hid hNo
                    have HR := Lib.hid hR
                    clear hNo hR
                    have hsx : (xs (c + 1)).sl.length ≤ 1000000 := by have := (Hx.out.pg (c + 1)).le; omega
                    go_wp2_with fail
                    refine (writeHeld_st hsx hs).mono ?_
                    clear hs
                    rintro e w10 ⟨va2, rfl, hs⟩
                    obtain ⟨a2, c2, rfl, left, right⟩ := hs.row_read
                    clear left right
                    have hs := hs.drop1.drop1.drop1.b4
                    have k0 := hs.k0
                    have f0 := hs.f0
                    have hs := ((((((hs.setL 0 (.int .u64 1)).setL 1 (.int .u64 (wd (c + 1)))).setL 2 (.int .i64 (xs (c + 1)).lev)).setL 3 (.slice a2 (xs (c + 1)).sl.length c2)).setL 4 (.string (xs (c + 1)).hi)).setL 5 (.bool (xs (c + 1)).la)).setL 6 (.int .u64 (xs (c + 1)).ri)
                    simp only [List.set_cons_zero, List.set_cons_succ] at hs
                    go_wp2
                    go_meet
                    exact ⟨c + 1, 0, _, .pointer none, rfl, rfl, by go_num, hn', Lib.hid (by have h := Ht.out; omega), L', acc + 1, wd (c + 1), c + 1, [], va, s, a2, c2, g, cp, l, by omega, rfl, .inl ⟨rfl, rfl, rfl, rfl, rfl, HNo.out⟩, HR.out, HHi.out, hs.b5.tail.b4.b4.b4.u2⟩
                  -- R18>
        case rest =>
          clear hS
          obtain ⟨n', rem', x11', x12', e11, e12, rfl, hn', Ht, hS⟩ := hcut
          obtain rfl := e11.symm
          obtain rfl := e12.symm
          go_upto_region 20 with (fail)
          go_cut [126] (fun v126 wx => ∃ b : Bool, v126 = .bool b ∧ Sta (Know.of w) d xs bm bc bl bc0 bH (m + 1) n' fr br rem' x11' x12' wx)
          case first =>
            as_aux_lemma =>
            by_cases hkp : k < lp
            · obtain ⟨qb, qoff, rfl, hqlt, kq, wq⟩ := Hq.out.2 k hkp
              rw [← (hS.below).cell (p := ⟨qb, qoff + k, none⟩) hqlt] at kq
              generalize P k = pk at *
              have wq := wf_u8 wq
              obtain ⟨wq1, wq2⟩ := wq
              go_wp2
              go_meet
              exact ⟨_, rfl, hS⟩
            · go_wp2
              go_meet
              exact ⟨true, rfl, hS⟩
          case rest =>
            clear hS
            obtain ⟨b2, rfl, hS⟩ := hcut
            apply_assumption
            cases b2 with
            | false =>
              go_wp2
              go_roundw
              case rel => exact ⟨k + 1, n', m + 2, fr, br, rem', x11', x12', rfl, rfl, by omega, hn', by omega, Lib.hid (by have h1 := Hb.out; have h2 := Ht.out; omega), rfl, rfl, rfl, by go_num, hS.mono (by omega)⟩
              case measure => simp [intOf]; omega
            | true =>
              -- <RD
              obtain ⟨L, acc, now, c, ws, va, s, ha, hc, g, cp, l, hacc, rfl, hW, hR, hHi, hs⟩ := hS
              obtain ⟨hCL, hc9, hmem⟩ := hW.mem hd.out hno.out Hx.out (show n' < 9 by omega)
              have q := reader_st hd.out hCL hc9 (show acc ≤ 1000000000000 by omega) hmem hR hs
              obtain ⟨hfc, hcn⟩ : fr ≤ c ∧ c ≤ n' := ⟨hR.2.1, hW.le⟩
              have Q := Lib.hid q
              have HW := Lib.hid hW
              have HHi := Lib.hid hHi
              clear q hmem hCL hR hs hW hHi
              go_wp2_with fail
              refine (Q.out).mono ?_
              clear Q
              rintro e w9 ⟨va', s', acc', hacc', hres, hs⟩
              rcases hres with ⟨rfl, hR⟩ | ⟨rfl, h6, hpg⟩
              · have HR := Lib.hid hR
                clear hR
                go_wp2
                go_roundw
                case rel => exact ⟨k + 1, n', m + 2, fr, br, rem', _, x12', rfl, rfl, by omega, hn', by omega, Lib.hid (by have h1 := Hb.out; have h2 := Ht.out; omega), rfl, rfl, rfl, by go_num, L, acc', now, c, ws, va', s', ha, hc, g, cp, l, by omega, rfl, HW.out, HR.out, HHi.out, hs⟩
                case measure => simp [intOf]; omega
              · obtain ⟨pc, pg, left, word, t⟩ := s'
                simp only at h6 hpg
                subst h6 hpg
                obtain ⟨g0, cp0, _, ecp, hcp, _, _, _, _, hs0⟩ := hs.b5.row_open (by omega)
                obtain ⟨rfl, rfl⟩ : g = g0 ∧ cp = cp0 := by simpa using ecp
                clear ecp hs0
                have hcp2 : n' + 1 ≤ cp := hcp
                clear hcp
                go_upto_region 22 with (fail)
                go_cut [136] (fun v136 wx => v136 = .bool false ∧ St (Know.of w) wx (rdC br d 1 va' ⟨6, xs c, left, word, t⟩ :: slC va' (xs c) :: memC bm bc L acc' :: blk bH (.cells #[.int .u64 1, .int .u64 (wd c), .int .i64 ((xs c)).lev, (.slice ha ((xs c)).sl.length hc), .string ((xs c)).hi, .bool ((xs c)).la, .int .u64 ((xs c)).ri] 74) :: rowC (.slice ha ((xs c)).sl.length hc) 132 2 ((xs c)).sl.length (slRow ((xs c)).sl) :: rowC (.slice (some ⟨g, 0, none⟩) (n' + 1) cp) 25 5 (n' + 1) (pgRow l) :: group (l.map slP) :: blk bl (.cells #[.int .i64 d.th, .int .i64 d.sn, .int .i64 d.no, .int .i64 d.ch, .int .i64 d.re, .int .i64 d.fa, .int .u64 d.cl] 30) :: blk bc0 (.cells #[.int .i64 d.th, .int .i64 d.sn, .int .i64 d.no, .int .i64 d.ch, .int .i64 d.re, .int .i64 d.fa, .int .u64 d.cl] 27) :: ws))
                case first =>
                  as_aux_lemma =>
                  have Hs := Lib.hid hs
                  clear hs
                  have hsx : (xs c).sl.length ≤ 1000000 := by have := (Hx.out.pg c).le; omega
                  refine region_effectsK [false, false, false, false, true, true, false] (fun | 5 => some (.bool true) | _ => none) [4, 5] (fun | 5 => [4] | _ => [])
                    (GR (Know.of w) (rdC br d 1 va' ⟨6, xs c, left, word, t⟩ :: slC va' (xs c) :: memC bm bc L acc' :: blk bH (.cells #[.int .u64 1, .int .u64 (wd c), .int .i64 ((xs c)).lev, (.slice ha ((xs c)).sl.length hc), .string ((xs c)).hi, .bool ((xs c)).la, .int .u64 ((xs c)).ri] 74) :: rowC (.slice ha ((xs c)).sl.length hc) 132 2 ((xs c)).sl.length (slRow ((xs c)).sl) :: rowC (.slice (some ⟨g, 0, none⟩) (n' + 1) cp) 25 5 (n' + 1) (pgRow l) :: group (l.map slP) :: blk bl (.cells #[.int .i64 d.th, .int .i64 d.sn, .int .i64 d.no, .int .i64 d.ch, .int .i64 d.re, .int .i64 d.fa, .int .u64 d.cl] 30) :: blk bc0 (.cells #[.int .i64 d.th, .int .i64 d.sn, .int .i64 d.no, .int .i64 d.ch, .int .i64 d.re, .int .i64 d.fa, .int .u64 d.cl] 27) :: ws) [4, 5] (RaΦ (xs c)))
                    (fun W => St (Know.of w) W (rdC br d 1 va' ⟨6, xs c, left, word, t⟩ :: slC va' (xs c) :: memC bm bc L acc' :: blk bH (.cells #[.int .u64 1, .int .u64 (wd c), .int .i64 ((xs c)).lev, (.slice ha ((xs c)).sl.length hc), .string ((xs c)).hi, .bool ((xs c)).la, .int .u64 ((xs c)).ri] 74) :: rowC (.slice ha ((xs c)).sl.length hc) 132 2 ((xs c)).sl.length (slRow ((xs c)).sl) :: rowC (.slice (some ⟨g, 0, none⟩) (n' + 1) cp) 25 5 (n' + 1) (pgRow l) :: group (l.map slP) :: blk bl (.cells #[.int .i64 d.th, .int .i64 d.sn, .int .i64 d.no, .int .i64 d.ch, .int .i64 d.re, .int .i64 d.fa, .int .u64 d.cl] 30) :: blk bc0 (.cells #[.int .i64 d.th, .int .i64 d.sn, .int .i64 d.no, .int .i64 d.ch, .int .i64 d.re, .int .i64 d.fa, .int .u64 d.cl] 27) :: ws)) ?aSq (by kernel_rfl) ?hBq ?Hq ?haSq ?h0q ?hIq ?hRq ?hEq ?hQq
                  case hBq => as_aux_lemma => kernel_rfl
                  case Hq =>
                    intro W2 hs
                    clear hs
                    simp only [withK]
                    repeat (go_big_quiet_step (fail))
                    refine wpQuiet_nil ?_
                    rfl
                  case haSq => rfl
                  case h0q => exact GR.start Hs.out
                  case hIq => exact fun ρ W2 h => h.rest
                  case hRq => exact fun ρ W2 W3 h hb => h.same hb
                  case hEq =>
                    refine ⟨?e4q, ?e5q, trivial⟩
                    case e4q =>
                      intro o ho ρ W2 h hcl h4 hd2 af haf
                      obtain rfl := Option.some.inj ho
                      replace haf : af = fillD _ ρ [] _ := haf
                      obtain ⟨C, R', h1, hs, hnext⟩ := h.step RaΦ.mono 4 [] (by decide) (by decide) (by decide) h4 (by simp)
                      simp only [fillD] at haf
                      subst haf
                      go_wp2_with fail
                      refine (rdPage_st rfl hsx hs).mono ?_
                      rintro e W3 ⟨va8, rfl, hs'⟩
                      obtain ⟨a8, c8, rfl, _, _⟩ := (show St _ W3 (rowC va8 132 2 (xs c).sl.length (slRow (xs c).sl) :: _) from hs').row_read
                      go_wp2
                      exact ⟨rfl, _, rfl, fun u hu => (by cases hu), hnext _ _ W3 ⟨a8, c8, rfl, rfl⟩ hs'⟩
                    case e5q =>
                      intro o ho ρ W2 h hcl h5 hd2 af haf
                      obtain rfl := Option.some.inj ho
                      replace haf : af = fillD _ ρ [4] _ := haf
                      obtain ⟨v4, h4⟩ := Option.isSome_iff_exists.1 (hd2 4 (by show _ ∈ [4]; simp))
                      obtain ⟨cs8, R8, ⟨a8, c8, rfl, rfl⟩, hs8⟩ := h.at 4 (by simp) h4
                      have s8 := hs8.row_slots (by omega)
                      have hr := (h.rest).b6.b6
                      have hgl : g < W2.heap.size := by
                        obtain ⟨g0, cp0, _, ecp, _, _, _, _, _, hs0⟩ := hr.row_open (by omega)
                        obtain ⟨rfl, rfl⟩ : g = g0 ∧ cp = cp0 := by simpa using ecp
                        exact hs0.n0
                      have hpa := pages_at (v := .nilFunc) Hx.out hd.out HHi.out hr
                      simp only [fillD, h4, Option.getD_some, dstAt, List.getElem?_cons_succ, List.getElem?_cons_zero, Option.bind_some, Option.bind_none, Act.put, List.setIfInBounds_toArray, List.set_cons_zero, List.set_cons_succ] at haf
                      subst haf
                      go_wp2_with fail
                      refine (among_any (j := c - fr) W2 (fun i => xs (fr + i)) hgl (by omega) (fun i hi => by rw [show fr * 5 + i * 5 = (fr + i) * 5 by omega]; exact hpa (fr + i) (by omega)) s8 (by omega) (by show xs (fr + (c - fr)) = _; rw [show fr + (c - fr) = c by omega])).mono ?_
                      rintro e W3 ⟨rfl, hb⟩
                      go_wp2
                      exact ⟨rfl, _, rfl, fun u hu => Option.some.inj hu, (h.same hb).know RaΦ.mono 5 (by decide) (by simp) h5 _ ⟨rfl, rfl⟩⟩
                  case hQq =>
                    intro ρ W2 h hall
                    simp only [fillD, Option.getD_some, dstAt, List.getElem?_cons_succ, List.getElem?_cons_zero, Option.bind_some, Option.bind_none, Act.put, List.setIfInBounds_toArray, List.set_cons_zero, List.set_cons_succ]
                    go_wp2
                    go_meet
                    exact ⟨rfl, h.rest⟩
                case rest =>
                  clear hs
                  obtain ⟨rfl, hs⟩ := hcut
                  have kl := hs.b7.k0
                  go_wp2_with fail
                  refine (newRead_st (d := d) (id := 1) hs).mono ?_
                  clear hs kl
                  rintro e w10 ⟨br', rfl, hs⟩
                  have hs := hs.b2.tail.b2.tail
                  rcases HW.out.cases with ⟨rfl, rfl⟩ | ⟨bw, rfl, rfl⟩
                  · go_wp2
                    go_roundw
                    case rel => exact ⟨k + 1, n', m + 2, n', br', rem', _, _, rfl, rfl, by omega, hn', by omega, Lib.hid (by have h1 := Hb.out; have h2 := Ht.out; omega), rfl, by go_num, rfl, by go_num, L, acc', now, n', ws, _, rd0, ha, hc, g, cp, l, by omega, rfl, HW.out, RdOk.start _ _ _ _ (Nat.le_refl _), HHi.out, hs⟩
                    case measure => simp [intOf]; omega
                  · go_wp2
                    go_roundw
                    case rel => exact ⟨k + 1, c + 1, m + 2, c, br', rem', _, _, rfl, rfl, by omega, hn', by omega, Lib.hid (by have h1 := Hb.out; have h2 := Ht.out; omega), rfl, by go_num, by go_num, by go_num, L, acc', now, c, ws, _, rd0, ha, hc, g, cp, l, by omega, rfl, HW.out, RdOk.start _ _ _ _ (Nat.le_refl _), HHi.out, hs⟩
                    case measure => simp [intOf]; omega
              -- RD>
    · obtain rfl : k = lp + 900 := by omega
      obtain ⟨hn2, hr⟩ : n = np ∧ rem = 0 := by have := Hb.out; omega
      subst hn2 hr
      obtain rfl := hS.nil
      go_wp2
      go_ret
      exact ⟨rfl, hS.below⟩
end Go.Proofs.Ytfgjanponijkhaa
