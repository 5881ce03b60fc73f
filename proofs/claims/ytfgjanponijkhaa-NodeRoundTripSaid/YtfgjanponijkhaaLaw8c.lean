/- The walk of NodeRoundTrip. -/
import Derived.Test.YtfgjanponijkhaaAw8
import Derived.Test.YtfgjanponijkhaaNodeStage
import Derived.Test.YtfgjanponijkhaaNodePeek
import Derived.Test.YtfgjanponijkhaaPgReg
import Derived.Test.YtfgjanponijkhaaNodeFresh
import Derived.Test.YtfgjanponijkhaaNodeOwn
import Derived.Test.YtfgjanponijkhaaKitCells
import Derived.Test.YtfgjanponijkhaaEffA
namespace Go.Proofs.Ytfgjanponijkhaa
open Go.RowKit
set_option maxRecDepth 100000

/-- The numbers of a region's operations, as those of PgR2. -/
def sg (ρ : Nat → Option Value) : Nat → Option Value := fun k => match k with
  | 2 => ρ 3
  | 5 => ρ 7
  | 6 => ρ 8
  | 7 => ρ 9
  | 8 => ρ 10
  | 9 => ρ 11
  | _ => none

/-- Region 14: what the writer holds (2), the new writer (4), its variable (5). -/
def NwΦ (d : Cfg) (x y : Pg) (id word : Int) (e : Nat) (ρ : Nat → Option Value) (v : Value) (cs : List Comp) : Prop := match e with
  | 2 => ∃ (a : Option Addr) (c : Nat), v = .agg #[.int .u64 id, .int .u64 word, .int .i64 (x).lev, (.slice a x.sl.length c), .string (x).hi, .bool (x).la, .int .u64 (x).ri] ∧ cs = [rowC (.slice a (x).sl.length c) 132 2 (x).sl.length (slRow (x).sl)]
  | 4 => ∃ (bw2 b2 g2 cap2 : Nat) (va2 : Value) (mid ps2 : List Pt), v = .pointer (some ⟨bw2, 0, none⟩) ∧ Newer (pgPts d id x) (pgPts d id y) mid ∧ ps2 = ⟨d.node id 0, ⟨ltBegin word, ⟨#[]⟩, 0⟩⟩ :: mid ++ [⟨d.node id 0, ⟨ltEnd (ltBegin word), ⟨#[]⟩, 0⟩⟩] ∧
      cs = [wrC b2 id (ltEnd (ltBegin word)) y va2 g2 cap2 ps2 0, rowC (.slice (some ⟨g2, 0, none⟩) ps2.length cap2) 178 4 ps2.length (ptRow ps2), blk bw2 (.cells #[.pointer (some ⟨b2, 0, none⟩)] 182), slC va2 y]
  | 5 => cs = [] ∧ ρ 4 = some v
  | _ => True
theorem upd_keep {ρ : Nat → Option Value} {k j : Nat} {u v : Value} (hk : ρ k = none) (hj : ρ j = some v) : upd ρ k u j = some v := by
  unfold upd
  rw [if_neg (fun e => by rw [e, hk] at hj; cases hj)]
  exact hj
theorem NwΦ.mono {d : Cfg} {x y : Pg} {id word : Int} : Mono [2, 4, 5] (NwΦ d x y id word) := by
  intro e ρ v cs k u he hk h
  simp only [List.mem_cons, List.not_mem_nil, or_false] at he
  rcases he with rfl | rfl | rfl
  · exact h
  · exact h
  · exact ⟨h.1, upd_keep hk h.2⟩

/-- Region 19: what the writer holds (3), its word (4), the new machines (5, 8), their variables (9, 10). -/
def OwΦ (d : Cfg) (y : Pg) (id word : Int) (e : Nat) (ρ : Nat → Option Value) (v : Value) (cs : List Comp) : Prop := match e with
  | 3 => ∃ (a : Option Addr) (c : Nat), v = .agg #[.int .u64 id, .int .u64 word, .int .i64 (y).lev, (.slice a y.sl.length c), .string (y).hi, .bool (y).la, .int .u64 (y).ri] ∧ cs = [rowC (.slice a (y).sl.length c) 132 2 (y).sl.length (slRow (y).sl)]
  | 4 => v = .int .u64 word ∧ cs = []
  | 5 => ∃ b : Nat, v = .pointer (some ⟨b, 0, none⟩) ∧ cs = [ownC b d id (.slice none 0 0) (own0 word), slC (.slice none 0 0) pg0]
  | 8 => ∃ b : Nat, v = .pointer (some ⟨b, 0, none⟩) ∧ cs = [rdC b d id (.slice none 0 0) rd0, slC (.slice none 0 0) pg0]
  | 9 => cs = [] ∧ ρ 5 = some v
  | 10 => cs = [] ∧ ρ 8 = some v
  | _ => True
theorem OwΦ.mono {d : Cfg} {y : Pg} {id word : Int} : Mono [3, 4, 5, 8, 9, 10] (OwΦ d y id word) := by
  intro e ρ v cs k u he hk h
  simp only [List.mem_cons, List.not_mem_nil, or_false] at he
  rcases he with rfl | rfl | rfl | rfl | rfl | rfl
  · exact h
  · exact h
  · exact h
  · exact h
  · exact ⟨h.1, upd_keep hk h.2⟩
  · exact ⟨h.1, upd_keep hk h.2⟩

theorem same_nil (w : World) : Calls Try.prog 29 #[.agg #[.int .i64 0, .slice none 0 0, .string ⟨#[]⟩, .bool false, .int .u64 0], .agg #[.int .i64 0, .slice none 0 0, .string ⟨#[]⟩, .bool false, .int .u64 0]] w fun e w' => e = .returned (.bool true) ∧ Below w.heap.size w w' :=
  have h : SlAt w none pg0.sl := ⟨by decide, fun i s h => (by cases h)⟩
  samePage_any (pg := pg0) (a := none) (a' := none) (cap := 0) (cap' := 0) w h h
/-- Region 24: what the three machines show. -/
def RwΦ (y : Pg) (id word : Int) (e : Nat) (ρ : Nat → Option Value) (v : Value) (cs : List Comp) : Prop := match e with
  | 12 => ∃ (a : Option Addr) (c : Nat), v = .agg #[.int .i64 (y).lev, (.slice a y.sl.length c), .string (y).hi, .bool (y).la, .int .u64 (y).ri] ∧ cs = [rowC (.slice a (y).sl.length c) 132 2 (y).sl.length (slRow (y).sl)]
  | 14 => v = .bool true ∧ cs = []
  | 19 => ∃ (a : Option Addr) (c : Nat), v = .agg #[.int .u64 id, .int .u64 word, .int .i64 (y).lev, (.slice a y.sl.length c), .string (y).hi, .bool (y).la, .int .u64 (y).ri] ∧ cs = [rowC (.slice a (y).sl.length c) 132 2 (y).sl.length (slRow (y).sl)]
  | 20 => ∃ (a : Option Addr) (c : Nat), v = .agg #[.int .i64 (y).lev, (.slice a y.sl.length c), .string (y).hi, .bool (y).la, .int .u64 (y).ri] ∧ cs = [] ∧ ρ 19 = some (.agg #[.int .u64 id, .int .u64 word, .int .i64 (y).lev, (.slice a y.sl.length c), .string (y).hi, .bool (y).la, .int .u64 (y).ri])
  | 22 => v = .bool true ∧ cs = []
  | 27 => ∃ (a : Option Addr) (c : Nat), v = .agg #[.int .u64 id, .int .u64 word, .int .i64 (y).lev, (.slice a y.sl.length c), .string (y).hi, .bool (y).la, .int .u64 (y).ri] ∧ cs = [rowC (.slice a (y).sl.length c) 132 2 (y).sl.length (slRow (y).sl)]
  | 28 => v = .int .u64 id ∧ cs = []
  | 34 => ∃ (a : Option Addr) (c : Nat), v = .agg #[.int .u64 id, .int .u64 word, .int .i64 (y).lev, (.slice a y.sl.length c), .string (y).hi, .bool (y).la, .int .u64 (y).ri] ∧ cs = [rowC (.slice a (y).sl.length c) 132 2 (y).sl.length (slRow (y).sl)]
  | 35 => v = .int .u64 word ∧ cs = []
  | 37 => ∃ (a : Option Addr) (c : Nat), v = .agg #[.int .u64 id, .int .u64 word, .int .i64 (y).lev, (.slice a y.sl.length c), .string (y).hi, .bool (y).la, .int .u64 (y).ri] ∧ cs = [rowC (.slice a (y).sl.length c) 132 2 (y).sl.length (slRow (y).sl)]
  | 38 => v = .int .u64 word ∧ cs = []
  | 45 => ∃ (a : Option Addr) (c : Nat), v = .agg #[.int .i64 (y).lev, (.slice a y.sl.length c), .string (y).hi, .bool (y).la, .int .u64 (y).ri] ∧ cs = [rowC (.slice a (y).sl.length c) 132 2 (y).sl.length (slRow (y).sl)]
  | 47 => v = .bool true ∧ cs = []
  | _ => False
theorem RwΦ.mono {y : Pg} {id word : Int} : Mono [12, 14, 19, 20, 22, 27, 28, 34, 35, 37, 38, 45, 47] (RwΦ y id word) := by
  intro e ρ v cs k u he hk h
  simp only [List.mem_cons, List.not_mem_nil, or_false] at he
  rcases he with rfl | rfl | rfl | rfl | rfl | rfl | rfl | rfl | rfl | rfl | rfl | rfl | rfl
  case inr.inr.inr.inl =>
    obtain ⟨a, c, h1, h2, h3⟩ := h
    exact ⟨a, c, h1, h2, upd_keep hk h3⟩
  all_goals exact h

set_option maxHeartbeats 16000000 in
theorem nodeRoundTrip_walk (fanout id0 lev : Int) (a : Option Addr) (len cap : Nat) (hi : ByteArray) (la : Bool) (ri : Int) (f : Nat → Sl) (lev' : Int) (a' : Option Addr) (len' cap' : Nat) (hi' : ByteArray) (la' : Bool) (ri' : Int) (f' : Nat → Sl) (lv0 : Int)
    (hid0 : 0 ≤ id0 ∧ id0 < 18446744073709551616) (w : World) (h : PgIn w lev a len cap hi ri f) (h' : PgIn w lev' a' len' cap' hi' ri' f') :
    Calls Try.prog 10 #[.int .i64 fanout, .int .u64 id0, .agg #[.int .i64 lev, .slice a len cap, .string hi, .bool la, .int .u64 ri], .agg #[.int .i64 lev', .slice a' len' cap', .string hi', .bool la', .int .u64 ri'], .int .i64 lv0] w fun e w' => e = .returned (.bool true) ∧ Below w.heap.size w w' := by
  obtain ⟨d, hd, hno, Q1, Q2⟩ : ∃ d : Cfg, Hid d.Ok ∧ Hid (d.no = 100) ∧ Hid (∀ w, Calls Try.prog 17 #[.int .i64 1, .int .i64 fanout] w fun e w' => e = .returned (.agg #[.int .i64 d.th, .int .i64 d.sn, .int .i64 d.no, .int .i64 d.ch, .int .i64 d.re, .int .i64 d.fa, .int .u64 d.cl]) ∧ Below w.heap.size w w') ∧ Hid (∀ w K cs, St K w cs → Calls Try.prog 18 #[.agg #[.int .i64 d.th, .int .i64 d.sn, .int .i64 d.no, .int .i64 d.ch, .int .i64 d.re, .int .i64 d.fa, .int .u64 d.cl]] w fun e w'' => ∃ bm bc, e = .returned (.tuple #[.agg #[.int .i64 d.th, .int .i64 d.sn, .int .i64 d.no, .int .i64 d.ch, .int .i64 d.re, .int .i64 d.fa, .int .u64 d.cl], .pointer (some ⟨bm, 0, none⟩)]) ∧ St K w'' (memC bm bc (startL d) 0 :: cs)) :=
    ⟨kitC 1 (4 + fanout % 3) 1000, Lib.hid (kit8_ok fanout), Lib.hid (by simp [kitC]), Lib.hid (fun w => kitConfig_any 1 fanout w), Lib.hid (fun w K cs hs => kitMemory_st (kit8_ok fanout) hs)⟩
  have f1 := hd.out.fa1
  have f2 := hd.out.fa2
  obtain ⟨id, hid, hidl, hidu⟩ : ∃ id : Int, id = 2 + id0 % 50 ∧ 2 ≤ id ∧ id ≤ 51 := ⟨_, rfl, by omega, by omega⟩
  obtain ⟨lv, hlv, hlvl, hlvu⟩ : ∃ lv : Int, lv = lv0 % 5 ∧ 0 ≤ lv ∧ lv ≤ 4 := ⟨_, rfl, by omega, by omega⟩
  have hidn : id ≤ d.no := by rw [hno.out]; omega
  have hidd : 0 ≤ id ∧ id < 18446744073709551616 := by omega
  obtain ⟨x, hx⟩ : ∃ x, x = ctPg d lv len hi la ri f := ⟨_, rfl⟩
  obtain ⟨y, hy⟩ : ∃ y, y = ctPg d lv len' hi' la' ri' f' := ⟨_, rfl⟩
  have pox : PgOk d x := by rw [hx]; exact ctPg_ok hd.out h
  have poy : PgOk d y := by rw [hy]; exact ctPg_ok hd.out h'
  have lx : 0 ≤ x.lev ∧ x.lev < 1000000 := by rw [hx]; exact ⟨hlvl, by show lv < _; omega⟩
  have ly : 0 ≤ y.lev ∧ y.lev < 1000000 := by rw [hy]; exact ⟨hlvl, by show lv < _; omega⟩
  have qc := fun w1 K cs (hs : St K w1 cs) (hp : PgIn w1 lev a len cap hi ri f) => content_st (level := lv) (la := la) hd.out hs hp
  have qc' := fun w1 K cs (hs : St K w1 cs) (hp : PgIn w1 lev' a' len' cap' hi' ri' f') => content_st (level := lv) (la := la') hd.out hs hp
  rw [← hx] at qc
  rw [← hy] at qc'
  obtain ⟨_, _, p3, p4⟩ := start_page hd.out
  have hz := (start_cells d hd.out).2.2
  generalize startL d = L0 at *
  have qm := fun w => mod_any lv0 5 (by omega) (by omega) w
  rw [← hlv] at qm
  have Qm := Lib.hid qm
  have Qc := Lib.hid qc
  have Qc' := Lib.hid qc'
  have Ql := Lib.hid (fun w => (ltLock_any 0 (by decide) (by decide) w).mono (by rintro e w' ⟨rfl, rfl⟩; exact And.intro rfl (Below.refl _ _) : ∀ e w', _ → (e = .returned (.int .u64 (ltLock 0)) ∧ Below w.heap.size w w')))
  have Qn := Lib.hid (fun w => refNode_any d hd.out id 0 (by omega) (by omega) (by omega) (by omega) w)
  have P3 := Lib.hid p3
  have P4 := Lib.hid p4
  have Hz := Lib.hid hz
  have Pox := Lib.hid pox
  have Poy := Lib.hid poy
  have Hlx := Lib.hid lx
  have Hly := Lib.hid ly
  have Hp := Lib.hid h
  have Hp' := Lib.hid h'
  have Hid1 := Lib.hid hidd
  have Hidb := Lib.hid (And.intro hidl hidu)
  have hlex := pox.le
  have hley := poy.le
  have Hidn := Lib.hid hidn
  have Hid' := Lib.hid (show (2 : Int) + id0 % 50 = id from hid.symm)
  clear p3 p4 hz pox poy lx ly qc qc' qm h h' hx hy hlv hidn hidd hid hidl hidu
  have hs := ((St.start w).made (.cells #[.int .i64 lev, .slice a len cap, .string hi, .bool la, .int .u64 ri] 25)).made (.cells #[.int .i64 lev', .slice a' len' cap', .string hi', .bool la', .int .u64 ri'] 25)
  rw [World.size_alloc] at hs
  go_enter Try.func10, Try.ntmps10
  go_wp2_with fail
  refine (calls_same hs (Q1.out _)).mono ?_
  clear hs
  rintro e w1 ⟨rfl, hs⟩
  have hs := hs.made (.cells #[.int .i64 d.th, .int .i64 d.sn, .int .i64 d.no, .int .i64 d.ch, .int .i64 d.re, .int .i64 d.fa, .int .u64 d.cl] 27)
  obtain ⟨bc0, hbc0⟩ : ∃ bc0, bc0 = w1.heap.size := ⟨_, rfl⟩
  have kc := hs.k0
  go_wp2_with fail
  rw [← hbc0] at hs kc ⊢
  clear hbc0
  refine (Q2.out _ _ _ hs).mono ?_
  clear hs kc
  rintro e w2 ⟨bm, bc, rfl, hs⟩
  have hs := hs.made (.cells #[.int .i64 d.th, .int .i64 d.sn, .int .i64 d.no, .int .i64 d.ch, .int .i64 d.re, .int .i64 d.fa, .int .u64 d.cl] 30)
  obtain ⟨bl, hbl⟩ : ∃ bl, bl = w2.heap.size := ⟨_, rfl⟩
  go_wp2_with fail
  rw [← hbl] at hs ⊢
  clear hbl
  refine (awake8_st hs).mono ?_
  clear hs
  rintro e w3 ⟨rfl, hs⟩
  go_wp2_with fail
  refine (calls_id hs (Qm.out _)).mono ?_
  clear hs
  rintro e w4 ⟨rfl, hs⟩
  rw [Hid'.out]
  go_upto_region 7 with (fail)
  go_cut [14, 15] (fun v14 v15 wx => ∃ (sa : Option Addr) (sc b : Nat) (sa' : Option Addr) (sc' b' : Nat), v14 = .pointer (some ⟨b, 0, none⟩) ∧ v15 = .pointer (some ⟨b', 0, none⟩) ∧
    St (Know.of w) wx (rowC (.slice sa (x).sl.length sc) 132 2 (x).sl.length (slRow (x).sl) :: blk b (.cells #[.int .i64 (x).lev, (.slice sa x.sl.length sc), .string (x).hi, .bool (x).la, .int .u64 (x).ri] 25) :: rowC (.slice sa' (y).sl.length sc') 132 2 (y).sl.length (slRow (y).sl) :: blk b' (.cells #[.int .i64 (y).lev, (.slice sa' y.sl.length sc'), .string (y).hi, .bool (y).la, .int .u64 (y).ri] 25) :: [blk bl (.cells #[.int .i64 d.th, .int .i64 d.sn, .int .i64 d.no, .int .i64 d.ch, .int .i64 d.re, .int .i64 d.fa, .int .u64 d.cl] 30), memC bm bc L0 0, blk bc0 (.cells #[.int .i64 d.th, .int .i64 d.sn, .int .i64 d.no, .int .i64 d.ch, .int .i64 d.re, .int .i64 d.fa, .int .u64 d.cl] 27), blk (w.heap.size + 1) (.cells #[.int .i64 lev', .slice a' len' cap', .string hi', .bool la', .int .u64 ri'] 25), blk w.heap.size (.cells #[.int .i64 lev, .slice a len cap, .string hi, .bool la, .int .u64 ri] 25)]))
  case first =>
    as_aux_lemma =>
    have Hs := Lib.hid hs
    clear hs
    refine region_effects [false, false, false, true, false, false, false, true, true, true, true, true] [3, 7, 8, 9, 10, 11] (fun | 10 => [3, 8] | 11 => [7, 9] | _ => [])
      (fun ρ W => PgR2 (Know.of w) [blk bl (.cells #[.int .i64 d.th, .int .i64 d.sn, .int .i64 d.no, .int .i64 d.ch, .int .i64 d.re, .int .i64 d.fa, .int .u64 d.cl] 30), memC bm bc L0 0, blk bc0 (.cells #[.int .i64 d.th, .int .i64 d.sn, .int .i64 d.no, .int .i64 d.ch, .int .i64 d.re, .int .i64 d.fa, .int .u64 d.cl] 27), blk (w.heap.size + 1) (.cells #[.int .i64 lev', .slice a' len' cap', .string hi', .bool la', .int .u64 ri'] 25), blk w.heap.size (.cells #[.int .i64 lev, .slice a len cap, .string hi, .bool la, .int .u64 ri] 25)] x y (sg ρ) W) (fun W => St (Know.of w) W [blk bl (.cells #[.int .i64 d.th, .int .i64 d.sn, .int .i64 d.no, .int .i64 d.ch, .int .i64 d.re, .int .i64 d.fa, .int .u64 d.cl] 30), memC bm bc L0 0, blk bc0 (.cells #[.int .i64 d.th, .int .i64 d.sn, .int .i64 d.no, .int .i64 d.ch, .int .i64 d.re, .int .i64 d.fa, .int .u64 d.cl] 27), blk (w.heap.size + 1) (.cells #[.int .i64 lev', .slice a' len' cap', .string hi', .bool la', .int .u64 ri'] 25), blk w.heap.size (.cells #[.int .i64 lev, .slice a len cap, .string hi, .bool la, .int .u64 ri] 25)]) ?aS (by kernel_rfl) ?hB ?H ?haS ?h0 ?hI ?hR ?hE ?hQ
    case hB => as_aux_lemma => kernel_rfl
    case H =>
      intro W2 hs
      have kc := hs.k2
      have kq := hs.b3.k0
      have kp := hs.b4.k0
      clear hs
      simp only [withM]
      repeat (go_big_quiet_step (fail))
      refine wpQuiet_nil ?_
      rfl
    case haS => rfl
    case h0 => exact ⟨none, 0, 0, none, 0, 0, fun v h => (by cases h), fun v h => (by cases h), fun v h => (by cases h), fun v h => (by cases h), Hs.out.empty.empty.empty.empty⟩
    case hI => exact fun ρ W2 h => h.rest
    case hR => exact fun ρ W2 W3 h hb => h.same hb
    case hE =>
      refine ⟨?e3, ?e7, ?e8, ?e9, ?e10, ?e11, trivial⟩
      case e3 =>
        intro o ho ρ W2 h hcl h3 hd2 af haf
        obtain rfl := Option.some.inj ho
        replace haf : af = fillD _ ρ [] _ := haf
        have h10 : ρ 10 = none := hcl.none (by simp) (show 3 ∈ [3, 8] by simp) h3
        obtain ⟨R', hs, hnext⟩ := PgR2.e2 h h3 h10
        simp only [fillD] at haf
        subst haf
        go_wp2_with fail
        refine (Qc.out _ _ _ hs (Hp.out.keep (hs.below (Know.Le.refl _)))).mono ?_
        rintro e W3 ⟨va, rfl, hs'⟩
        go_wp2
        exact ⟨rfl, _, rfl, hnext va W3 hs'⟩
      case e7 =>
        intro o ho ρ W2 h hcl h7 hd2 af haf
        obtain rfl := Option.some.inj ho
        replace haf : af = fillD _ ρ [] _ := haf
        have h11 : ρ 11 = none := hcl.none (by simp) (show 7 ∈ [7, 9] by simp) h7
        obtain ⟨R', hs, hnext⟩ := PgR2.e5 h h7 h11
        simp only [fillD] at haf
        subst haf
        go_wp2_with fail
        refine (Qc'.out _ _ _ hs (Hp'.out.keep (hs.below (Know.Le.refl _)))).mono ?_
        rintro e W3 ⟨va, rfl, hs'⟩
        go_wp2
        exact ⟨rfl, _, rfl, hnext va W3 hs'⟩
      case e8 =>
        intro o ho ρ W2 h hcl h8 hd2 af haf
        obtain rfl := Option.some.inj ho
        replace haf : af = fillD _ ρ [] _ := haf
        have h10 : ρ 10 = none := hcl.none (by simp) (show 8 ∈ [3, 8] by simp) h8
        simp only [fillD] at haf
        subst haf
        go_wp2
        exact ⟨rfl, _, rfl, PgR2.e6 h h8 h10⟩
      case e9 =>
        intro o ho ρ W2 h hcl h9 hd2 af haf
        obtain rfl := Option.some.inj ho
        replace haf : af = fillD _ ρ [] _ := haf
        have h11 : ρ 11 = none := hcl.none (by simp) (show 9 ∈ [7, 9] by simp) h9
        simp only [fillD] at haf
        subst haf
        go_wp2
        exact ⟨rfl, _, rfl, PgR2.e7 h h9 h11⟩
      case e10 =>
        intro o ho ρ W2 h hcl h10 hd2 af haf
        obtain rfl := Option.some.inj ho
        replace haf : af = fillD _ ρ [3, 8] _ := haf
        obtain ⟨v3, h3⟩ := Option.isSome_iff_exists.1 (hd2 3 (by show _ ∈ [3, 8]; simp))
        obtain ⟨v8, h8⟩ := Option.isSome_iff_exists.1 (hd2 8 (by show _ ∈ [3, 8]; simp))
        obtain ⟨sa, sc, b, R', rfl, rfl, hs, hnext⟩ := PgR2.e8 h h3 h8 h10
        simp only [fillD, h3, h8, Option.getD_some, dstAt, List.getElem?_cons_succ, List.getElem?_cons_zero, Option.bind_some, Option.bind_none, Act.put, List.setIfInBounds_toArray, List.set_cons_zero, List.set_cons_succ] at haf
        subst haf
        have k0 := hs.k0
        have f0 := hs.f0
        have hs := ((((hs.setL 0 (.int .i64 x.lev)).setL 1 (.slice sa x.sl.length sc)).setL 2 (.string x.hi)).setL 3 (.bool x.la)).setL 4 (.int .u64 x.ri)
        simp only [List.set_cons_zero, List.set_cons_succ] at hs
        go_wp2
        exact ⟨rfl, undef, rfl, hnext _ _ hs⟩
      case e11 =>
        intro o ho ρ W2 h hcl h11 hd2 af haf
        obtain rfl := Option.some.inj ho
        replace haf : af = fillD _ ρ [7, 9] _ := haf
        obtain ⟨v7, h7⟩ := Option.isSome_iff_exists.1 (hd2 7 (by show _ ∈ [7, 9]; simp))
        obtain ⟨v9, h9⟩ := Option.isSome_iff_exists.1 (hd2 9 (by show _ ∈ [7, 9]; simp))
        obtain ⟨sa, sc, b, R', rfl, rfl, hs, hnext⟩ := PgR2.e9 h h7 h9 h11
        simp only [fillD, h7, h9, Option.getD_some, dstAt, List.getElem?_cons_succ, List.getElem?_cons_zero, Option.bind_some, Option.bind_none, Act.put, List.setIfInBounds_toArray, List.set_cons_zero, List.set_cons_succ] at haf
        subst haf
        have k0 := hs.k0
        have f0 := hs.f0
        have hs := ((((hs.setL 0 (.int .i64 y.lev)).setL 1 (.slice sa y.sl.length sc)).setL 2 (.string y.hi)).setL 3 (.bool y.la)).setL 4 (.int .u64 y.ri)
        simp only [List.set_cons_zero, List.set_cons_succ] at hs
        go_wp2
        exact ⟨rfl, undef, rfl, hnext _ _ hs⟩
    case hQ =>
      intro ρ W2 h hall
      obtain ⟨sa, sc, b, sa', sc', b', h3, h8, h7, h9, ⟨v10, h10⟩, ⟨v11, h11⟩, hs⟩ := PgR2.last h (fun e he => by
        simp only [List.mem_cons, List.not_mem_nil, or_false] at he
        rcases he with rfl | rfl | rfl | rfl | rfl | rfl
        · exact hall 3 (by simp)
        · exact hall 7 (by simp)
        · exact hall 8 (by simp)
        · exact hall 9 (by simp)
        · exact hall 10 (by simp)
        · exact hall 11 (by simp))
      replace h3 : ρ 3 = _ := h3
      replace h7 : ρ 7 = _ := h7
      replace h8 : ρ 8 = _ := h8
      replace h9 : ρ 9 = _ := h9
      replace h10 : ρ 10 = _ := h10
      replace h11 : ρ 11 = _ := h11
      simp only [fillD, h3, h7, h8, h9, h10, h11, Option.getD_some, dstAt, List.getElem?_cons_succ, List.getElem?_cons_zero, Option.bind_some, Option.bind_none, Act.put, List.setIfInBounds_toArray, List.set_cons_zero, List.set_cons_succ]
      go_wp2
      go_meet
      exact ⟨_, _, _, _, _, _, rfl, rfl, hs⟩
  case rest =>
    clear hs Qc Qc' Hp Hp'
    obtain ⟨sa, sc, bx, sa', sc', bY, rfl, rfl, hs⟩ := hcut
    have hs := hs.b5.b1
    have kl := hs.b5.k0
    have kx := hs.k2
    go_wp2_with fail
    have q := newFresh_st hd.out Hid1.out Hlx.out hlex hs
    refine q.mono ?_
    clear hs kl kx q
    rintro e w5 ⟨bw, bwr, g, capp, va, ps, rfl, hps, hs⟩
    obtain ⟨av, cv, rfl, _, _⟩ := (show St _ w5 (rowC va 132 2 x.sl.length (slRow x.sl) :: _) from hs.b3).row_read
    have hs : St (Know.of w) w5 (wrC bwr id (ltLock 0) x (.slice av x.sl.length cv) g capp ps 0 :: memC bm bc L0 0 :: rowC (.slice (some ⟨g, 0, none⟩) ps.length capp) 178 4 ps.length (ptRow ps) :: blk bw (.cells #[.pointer (some ⟨bwr, 0, none⟩)] 195) :: rowC (.slice av (x).sl.length cv) 132 2 (x).sl.length (slRow (x).sl) :: rowC (.slice sa (x).sl.length sc) 132 2 (x).sl.length (slRow (x).sl) :: blk bx (.cells #[.int .i64 (x).lev, (.slice sa x.sl.length sc), .string (x).hi, .bool (x).la, .int .u64 (x).ri] 25) :: rowC (.slice sa' (y).sl.length sc') 132 2 (y).sl.length (slRow (y).sl) :: blk bY (.cells #[.int .i64 (y).lev, (.slice sa' y.sl.length sc'), .string (y).hi, .bool (y).la, .int .u64 (y).ri] 25) :: blk bl (.cells #[.int .i64 d.th, .int .i64 d.sn, .int .i64 d.no, .int .i64 d.ch, .int .i64 d.re, .int .i64 d.fa, .int .u64 d.cl] 30) :: blk bc0 (.cells #[.int .i64 d.th, .int .i64 d.sn, .int .i64 d.no, .int .i64 d.ch, .int .i64 d.re, .int .i64 d.fa, .int .u64 d.cl] 27) :: []) := hs.b5.b1.left (F := [_, _])
    have hlen : ps.length = x.sl.length + 4 := by rw [hps]; simp [pgPts, slPts_length]
    obtain ⟨fh, fc⟩ := fresh_holds hd.out (id := id) (c0 := ⟨ltLock 0, ⟨#[]⟩, 0⟩) (by have := Hidb.out.1; omega) Hidn.out P4.out hlex
    rw [← hps] at fh fc
    have fpage := fh.page hd.out (id := id) (by have := Hidb.out.1; omega) Hidn.out hlex Hlx.out Pox.out.la
    have fpg := pgOf_at fpage
    have fok : CelsOk (putAll L0 ps) := putAll_ok _ _ P3.out (fun p hp => by
      rw [hps] at hp
      rcases List.mem_cons.1 hp with rfl | hp
      · exact ltLock_bd (x := 0) (by decide) (by decide)
      · exact wf_u64 (pgPts_ok hd.out (by have := Hidb.out.1; omega) Hidn.out Pox.out Hlx.out p hp).n)
    have fother : ∀ j : Int, (∀ k : Int, 0 ≤ k → k < d.fa + 4 → j ≠ d.node id k) → getC (putAll L0 ps) j = getC L0 j := fun j hj => pts_other hd.out (id := id) (by have := Hidb.out.1; omega) Hidn.out hlex (fun p hp => by
      rw [hps] at hp
      rcases List.mem_cons.1 hp with rfl | hp
      · exact .inl rfl
      · exact .inr hp) hj
    have fl : ((putAll L0 ps).length : Int) = d.cells := by rw [putAll_length]; exact P4.out
    obtain ⟨L1, hL1⟩ : ∃ L1, L1 = putAll L0 ps := ⟨_, rfl⟩
    rw [← hL1] at fh fc fpg fok fother fl
    have Fh := Lib.hid fh
    have Fc := Lib.hid fc
    have Fpg := Lib.hid fpg
    have Fok := Lib.hid fok
    have Fother := Lib.hid fother
    have Fl := Lib.hid fl
    have HL1 := Lib.hid hL1
    have hps2 : 2 ≤ ps.length := by omega
    have hps40 : ps.length ≤ 40 := by omega
    have qpk := fun K wz F (hz : St K wz (memC bm bc L1 ps.length :: F)) => peek_st2 hd.out (id := id) (by have := Hidb.out.1; omega) Hidn.out fok hz
    rw [fpg] at qpk
    have Qpk := Lib.hid qpk
    clear qpk hlen fh fc fpage fpg fok fother fl hL1 hps Q1 Q2 Qm P3 P4
    go_wp2
    go_loopw [17] (fun v17 wr => ∃ k : Nat, k < ps.length ∧ v17 = .int .i64 (1 + (k : Int)) ∧ St (Know.of w) wr (wrC bwr id (ltLock 0) x (.slice av x.sl.length cv) g capp ps k :: memC bm bc (putAll L0 (ps.take k)) k :: rowC (.slice (some ⟨g, 0, none⟩) ps.length capp) 178 4 ps.length (ptRow ps) :: blk bw (.cells #[.pointer (some ⟨bwr, 0, none⟩)] 195) :: rowC (.slice av (x).sl.length cv) 132 2 (x).sl.length (slRow (x).sl) :: rowC (.slice sa (x).sl.length sc) 132 2 (x).sl.length (slRow (x).sl) :: blk bx (.cells #[.int .i64 (x).lev, (.slice sa x.sl.length sc), .string (x).hi, .bool (x).la, .int .u64 (x).ri] 25) :: rowC (.slice sa' (y).sl.length sc') 132 2 (y).sl.length (slRow (y).sl) :: blk bY (.cells #[.int .i64 (y).lev, (.slice sa' y.sl.length sc'), .string (y).hi, .bool (y).la, .int .u64 (y).ri] 25) :: blk bl (.cells #[.int .i64 d.th, .int .i64 d.sn, .int .i64 d.no, .int .i64 d.ch, .int .i64 d.re, .int .i64 d.fa, .int .u64 d.cl] 30) :: blk bc0 (.cells #[.int .i64 d.th, .int .i64 d.sn, .int .i64 d.no, .int .i64 d.ch, .int .i64 d.re, .int .i64 d.fa, .int .u64 d.cl] 27) :: [])) (fun v _ => 100 - (intOf v).toNat)
    case atStart => exact ⟨0, by omega, rfl, hs⟩
    case round =>
      clear hs
      obtain ⟨k, hk, rfl, hs⟩ := hrel
      obtain ⟨p, hp⟩ : ∃ p, ps[k]? = some p := ⟨_, List.getElem?_eq_getElem hk⟩
      have q := freshStep_st (L := putAll L0 (ps.take k)) hp (show k ≤ 1000000000000 by omega) hs
      rw [← putAll_take hp] at q
      clear hp hs
      by_cases hlast : k + 1 = ps.length
      · rw [decide_eq_true hlast, hlast, List.take_length, ← HL1.out] at q
        have hlast' : k = ps.length - 1 := by omega
        have Q := Lib.hid q
        clear q
        go_wp2_with fail
        refine (Q.out).mono ?_
        clear Q
        rintro e w6 ⟨rfl, hs⟩
        go_upto_region 12 with (fail)
        go_cut [103] (fun v103 wx => v103 = .bool false ∧ St (Know.of w) wx (memC bm bc L1 ps.length :: wrC bwr id (ltLock 0) x (.slice av x.sl.length cv) g capp ps ps.length :: rowC (.slice av (x).sl.length cv) 132 2 (x).sl.length (slRow (x).sl) :: blk bw (.cells #[.pointer (some ⟨bwr, 0, none⟩)] 195) :: [rowC (.slice sa (x).sl.length sc) 132 2 (x).sl.length (slRow (x).sl), blk bx (.cells #[.int .i64 (x).lev, (.slice sa x.sl.length sc), .string (x).hi, .bool (x).la, .int .u64 (x).ri] 25), rowC (.slice sa' (y).sl.length sc') 132 2 (y).sl.length (slRow (y).sl), blk bY (.cells #[.int .i64 (y).lev, (.slice sa' y.sl.length sc'), .string (y).hi, .bool (y).la, .int .u64 (y).ri] 25), blk bl (.cells #[.int .i64 d.th, .int .i64 d.sn, .int .i64 d.no, .int .i64 d.ch, .int .i64 d.re, .int .i64 d.fa, .int .u64 d.cl] 30), blk bc0 (.cells #[.int .i64 d.th, .int .i64 d.sn, .int .i64 d.no, .int .i64 d.ch, .int .i64 d.re, .int .i64 d.fa, .int .u64 d.cl] 27)]))
        case first =>
          as_aux_lemma =>
          have hs : St (Know.of w) w6 (memC bm bc L1 ps.length :: wrC bwr id (ltLock 0) x (.slice av x.sl.length cv) g capp ps ps.length :: rowC (.slice av (x).sl.length cv) 132 2 (x).sl.length (slRow (x).sl) :: blk bw (.cells #[.pointer (some ⟨bwr, 0, none⟩)] 195) :: [rowC (.slice sa (x).sl.length sc) 132 2 (x).sl.length (slRow (x).sl), blk bx (.cells #[.int .i64 (x).lev, (.slice sa x.sl.length sc), .string (x).hi, .bool (x).la, .int .u64 (x).ri] 25), rowC (.slice sa' (y).sl.length sc') 132 2 (y).sl.length (slRow (y).sl), blk bY (.cells #[.int .i64 (y).lev, (.slice sa' y.sl.length sc'), .string (y).hi, .bool (y).la, .int .u64 (y).ri] 25), blk bl (.cells #[.int .i64 d.th, .int .i64 d.sn, .int .i64 d.no, .int .i64 d.ch, .int .i64 d.re, .int .i64 d.fa, .int .u64 d.cl] 30), blk bc0 (.cells #[.int .i64 d.th, .int .i64 d.sn, .int .i64 d.no, .int .i64 d.ch, .int .i64 d.re, .int .i64 d.fa, .int .u64 d.cl] 27)]) := hs.b2.tail.b3.b1.b2
          have Hs := Lib.hid hs
          clear hs
          refine region_effectsK [false, false, false, true, false, true, false, false, false, false, false, false, false, false, false, false, false, false, false, true, true, false, false, false, false, false, true, true, false, false, false, false, false, true, true, false, true, false, false] (fun | 5 => some (.bool true) | 20 => some (.int .u64 id) | 27 => some (.int .u64 (ltLock 0)) | 36 => some (.bool true) | _ => none) [3, 5, 19, 20, 26, 27, 33, 34, 36] (fun | 5 => [3] | 20 => [19] | 27 => [26] | 34 => [33] | 36 => [34] | _ => [])
            (RtR (Know.of w) (memC bm bc L1 ps.length) (wrC bwr id (ltLock 0) x (.slice av x.sl.length cv) g capp ps ps.length) (rowC (.slice av (x).sl.length cv) 132 2 (x).sl.length (slRow (x).sl)) (blk bw (.cells #[.pointer (some ⟨bwr, 0, none⟩)] 195)) [rowC (.slice sa (x).sl.length sc) 132 2 (x).sl.length (slRow (x).sl), blk bx (.cells #[.int .i64 (x).lev, (.slice sa x.sl.length sc), .string (x).hi, .bool (x).la, .int .u64 (x).ri] 25), rowC (.slice sa' (y).sl.length sc') 132 2 (y).sl.length (slRow (y).sl), blk bY (.cells #[.int .i64 (y).lev, (.slice sa' y.sl.length sc'), .string (y).hi, .bool (y).la, .int .u64 (y).ri] 25), blk bl (.cells #[.int .i64 d.th, .int .i64 d.sn, .int .i64 d.no, .int .i64 d.ch, .int .i64 d.re, .int .i64 d.fa, .int .u64 d.cl] 30), blk bc0 (.cells #[.int .i64 d.th, .int .i64 d.sn, .int .i64 d.no, .int .i64 d.ch, .int .i64 d.re, .int .i64 d.fa, .int .u64 d.cl] 27)] x id (ltLock 0))
            (fun W => St (Know.of w) W (memC bm bc L1 ps.length :: wrC bwr id (ltLock 0) x (.slice av x.sl.length cv) g capp ps ps.length :: rowC (.slice av (x).sl.length cv) 132 2 (x).sl.length (slRow (x).sl) :: blk bw (.cells #[.pointer (some ⟨bwr, 0, none⟩)] 195) :: [rowC (.slice sa (x).sl.length sc) 132 2 (x).sl.length (slRow (x).sl), blk bx (.cells #[.int .i64 (x).lev, (.slice sa x.sl.length sc), .string (x).hi, .bool (x).la, .int .u64 (x).ri] 25), rowC (.slice sa' (y).sl.length sc') 132 2 (y).sl.length (slRow (y).sl), blk bY (.cells #[.int .i64 (y).lev, (.slice sa' y.sl.length sc'), .string (y).hi, .bool (y).la, .int .u64 (y).ri] 25), blk bl (.cells #[.int .i64 d.th, .int .i64 d.sn, .int .i64 d.no, .int .i64 d.ch, .int .i64 d.re, .int .i64 d.fa, .int .u64 d.cl] 30), blk bc0 (.cells #[.int .i64 d.th, .int .i64 d.sn, .int .i64 d.no, .int .i64 d.ch, .int .i64 d.re, .int .i64 d.fa, .int .u64 d.cl] 27)])) ?bS (by kernel_rfl) ?bB ?bH ?baS ?b0 ?bI ?bR ?bE ?bQ
          case bB => as_aux_lemma => kernel_rfl
          case bH =>
            intro W2 hs
            have kl := hs.b8.k0
            have kc := hs.b9.k0
            have kx := hs.b5.k0
            have Qy := Lib.hid (fun wz (hy : ∃ x : Ext, wz = over W2 x) => peek_any wz bm bc L1 _ (d.node id 0) ((hs.same (Pure.below hy)).mem))
            rw [Fc.out] at Qy
            clear hs
            simp only [withK]
            repeat (go_big_quiet_step (first | (go_at_call 50; exact pure_of (Qy.out _ ⟨_, rfl⟩)) | (go_at_call 22; exact pure_of (Qn.out _)) | (go_at_call 45; exact pure_of (Ql.out _))))
            refine wpQuiet_nil ?_
            rfl
          case baS => rfl
          case b0 => exact RtR.start Hs.out
          case bI => exact fun ρ W2 h => h.rest
          case bR => exact fun ρ W2 W3 h hb => h.same hb
          case bE =>
            refine ⟨?e3, ?e5, ?e19, ?e20, ?e26, ?e27, ?e33, ?e34, ?e36, trivial⟩
            case e3 =>
              intro o ho ρ W2 h hcl h3 hd2 af haf
              obtain rfl := Option.some.inj ho
              replace haf : af = fillD _ ρ [] _ := haf
              obtain ⟨R', hs, hnext⟩ := RtR.e3 h h3
              simp only [fillD] at haf
              subst haf
              go_wp2_with fail
              refine (Qpk.out _ _ _ hs).mono ?_
              rintro e W3 ⟨va, rfl, hs'⟩
              go_wp2
              exact ⟨rfl, _, rfl, fun u hu => (by cases hu), hnext va W3 hs'⟩
            case e5 =>
              intro o ho ρ W2 h hcl h5 hd2 af haf
              obtain rfl := Option.some.inj ho
              replace haf : af = fillD _ ρ [3] _ := haf
              obtain ⟨v3, h3⟩ := Option.isSome_iff_exists.1 (hd2 3 (by show _ ∈ [3]; simp))
              obtain ⟨a3, c3, rfl, s3⟩ := RtR.row3 h h3 (by omega)
              have sx := (h.rest).b4.row_slots (by omega)
              simp only [fillD, h3, Option.getD_some, dstAt, List.getElem?_cons_succ, List.getElem?_cons_zero, Option.bind_some, Option.bind_none, Act.put, List.setIfInBounds_toArray, List.set_cons_zero, List.set_cons_succ] at haf
              subst haf
              go_wp2_with fail
              refine (samePage_any _ s3 sx).mono ?_
              rintro e W3 ⟨rfl, hb⟩
              go_wp2
              exact ⟨rfl, _, rfl, fun u hu => Option.some.inj hu, RtR.know (h.same hb) (by decide) _⟩
            case e19 =>
              intro o ho ρ W2 h hcl h19 hd2 af haf
              obtain rfl := Option.some.inj ho
              replace haf : af = fillD _ ρ [] _ := haf
              obtain ⟨R', hs, hnext⟩ := RtR.e19 h h19
              simp only [fillD] at haf
              subst haf
              go_wp2_with fail
              refine (freshHeld_st (by omega) hs).mono ?_
              rintro e W3 ⟨va, rfl, hs'⟩
              go_wp2
              exact ⟨rfl, _, rfl, fun u hu => (by cases hu), hnext va W3 hs'⟩
            case e20 =>
              intro o ho ρ W2 h hcl h20 hd2 af haf
              obtain rfl := Option.some.inj ho
              replace haf : af = fillD _ ρ [19] _ := haf
              obtain ⟨v19, h19⟩ := Option.isSome_iff_exists.1 (hd2 19 (by show _ ∈ [19]; simp))
              obtain ⟨a19, c19, rfl⟩ := RtR.val19 h h19
              simp only [fillD, h19, Option.getD_some, dstAt, List.getElem?_cons_succ, List.getElem?_cons_zero, Option.bind_some, Option.bind_none, Act.put, List.setIfInBounds_toArray, List.set_cons_zero, List.set_cons_succ] at haf
              subst haf
              go_wp2
              exact ⟨rfl, _, rfl, fun u hu => Option.some.inj hu, RtR.know h (by decide) _⟩
            case e26 =>
              intro o ho ρ W2 h hcl h26 hd2 af haf
              obtain rfl := Option.some.inj ho
              replace haf : af = fillD _ ρ [] _ := haf
              obtain ⟨R', hs, hnext⟩ := RtR.e26 h h26
              simp only [fillD] at haf
              subst haf
              go_wp2_with fail
              refine (freshHeld_st (by omega) hs).mono ?_
              rintro e W3 ⟨va, rfl, hs'⟩
              go_wp2
              exact ⟨rfl, _, rfl, fun u hu => (by cases hu), hnext va W3 hs'⟩
            case e27 =>
              intro o ho ρ W2 h hcl h27 hd2 af haf
              obtain rfl := Option.some.inj ho
              replace haf : af = fillD _ ρ [26] _ := haf
              obtain ⟨v26, h26⟩ := Option.isSome_iff_exists.1 (hd2 26 (by show _ ∈ [26]; simp))
              obtain ⟨a26, c26, rfl⟩ := RtR.val26 h h26
              simp only [fillD, h26, Option.getD_some, dstAt, List.getElem?_cons_succ, List.getElem?_cons_zero, Option.bind_some, Option.bind_none, Act.put, List.setIfInBounds_toArray, List.set_cons_zero, List.set_cons_succ] at haf
              subst haf
              go_wp2
              exact ⟨rfl, _, rfl, fun u hu => Option.some.inj hu, RtR.know h (by decide) _⟩
            case e33 =>
              intro o ho ρ W2 h hcl h33 hd2 af haf
              obtain rfl := Option.some.inj ho
              replace haf : af = fillD _ ρ [] _ := haf
              have h34 : ρ 34 = none := hcl.none (by simp) (show 33 ∈ [33] by simp) h33
              obtain ⟨R', hs, hnext⟩ := RtR.e33 h h33 h34
              simp only [fillD] at haf
              subst haf
              go_wp2_with fail
              refine (freshHeld_st (by omega) hs).mono ?_
              rintro e W3 ⟨va, rfl, hs'⟩
              go_wp2
              exact ⟨rfl, _, rfl, fun u hu => (by cases hu), hnext va W3 hs'⟩
            case e34 =>
              intro o ho ρ W2 h hcl h34 hd2 af haf
              obtain rfl := Option.some.inj ho
              replace haf : af = fillD _ ρ [33] _ := haf
              obtain ⟨v33, h33⟩ := Option.isSome_iff_exists.1 (hd2 33 (by show _ ∈ [33]; simp))
              obtain ⟨a33, c33, rfl, hnext⟩ := RtR.e34 h h33
              simp only [fillD, h33, Option.getD_some, dstAt, List.getElem?_cons_succ, List.getElem?_cons_zero, Option.bind_some, Option.bind_none, Act.put, List.setIfInBounds_toArray, List.set_cons_zero, List.set_cons_succ] at haf
              subst haf
              go_wp2
              exact ⟨rfl, _, rfl, fun u hu => (by cases hu), hnext⟩
            case e36 =>
              intro o ho ρ W2 h hcl h36 hd2 af haf
              obtain rfl := Option.some.inj ho
              replace haf : af = fillD _ ρ [34] _ := haf
              obtain ⟨v34, h34⟩ := Option.isSome_iff_exists.1 (hd2 34 (by show _ ∈ [34]; simp))
              obtain ⟨v33, h33⟩ := Option.isSome_iff_exists.1 (hcl 34 (by simp) (by rw [h34]; rfl) 33 (by show _ ∈ [33]; simp))
              obtain ⟨a34, c34, rfl, s34⟩ := RtR.row34 h h33 h34 (by omega)
              have sx := (h.rest).b4.row_slots (by omega)
              simp only [fillD, h34, Option.getD_some, dstAt, List.getElem?_cons_succ, List.getElem?_cons_zero, Option.bind_some, Option.bind_none, Act.put, List.setIfInBounds_toArray, List.set_cons_zero, List.set_cons_succ] at haf
              subst haf
              go_wp2_with fail
              refine (samePage_any _ s34 sx).mono ?_
              rintro e W3 ⟨rfl, hb⟩
              go_wp2
              exact ⟨rfl, _, rfl, fun u hu => Option.some.inj hu, RtR.know (h.same hb) (by decide) _⟩
          case bQ =>
            intro ρ W2 h hall
            simp only [fillD, Option.getD_some, dstAt, List.getElem?_cons_succ, List.getElem?_cons_zero, Option.bind_some, Option.bind_none, Act.put, List.setIfInBounds_toArray, List.set_cons_zero, List.set_cons_succ]
            go_wp2
            go_meet
            exact ⟨rfl, h.rest⟩
        case rest =>
          clear hs
          obtain ⟨rfl, hs⟩ := hcut
          go_upto_region 14 with (fail)
          have hs : St (Know.of w) _ [wrC bwr id (ltLock 0) x (.slice av x.sl.length cv) g capp ps ps.length, rowC (.slice av (x).sl.length cv) 132 2 (x).sl.length (slRow (x).sl), blk bw (.cells #[.pointer (some ⟨bwr, 0, none⟩)] 195), rowC (.slice sa' (y).sl.length sc') 132 2 (y).sl.length (slRow (y).sl), memC bm bc L1 ps.length, blk bY (.cells #[.int .i64 (y).lev, (.slice sa' y.sl.length sc'), .string (y).hi, .bool (y).la, .int .u64 (y).ri] 25), blk bl (.cells #[.int .i64 d.th, .int .i64 d.sn, .int .i64 d.no, .int .i64 d.ch, .int .i64 d.re, .int .i64 d.fa, .int .u64 d.cl] 30), blk bc0 (.cells #[.int .i64 d.th, .int .i64 d.sn, .int .i64 d.no, .int .i64 d.ch, .int .i64 d.re, .int .i64 d.fa, .int .u64 d.cl] 27)] := hs.b4.tail.b4.tail.u4
          go_cut [18] (fun v18 wx => ∃ (bw2 b2 g2 cap2 : Nat) (va2 : Value) (mid ps2 : List Pt), v18 = .pointer (some ⟨bw2, 0, none⟩) ∧ Newer (pgPts d id x) (pgPts d id y) mid ∧ ps2 = ⟨d.node id 0, ⟨ltBegin (ltLock 0), ⟨#[]⟩, 0⟩⟩ :: mid ++ [⟨d.node id 0, ⟨ltEnd (ltBegin (ltLock 0)), ⟨#[]⟩, 0⟩⟩] ∧
            St (Know.of w) wx (wrC b2 id (ltEnd (ltBegin (ltLock 0))) y va2 g2 cap2 ps2 0 :: rowC (.slice (some ⟨g2, 0, none⟩) ps2.length cap2) 178 4 ps2.length (ptRow ps2) :: blk bw2 (.cells #[.pointer (some ⟨b2, 0, none⟩)] 182) :: slC va2 y :: [wrC bwr id (ltLock 0) x (.slice av x.sl.length cv) g capp ps ps.length, rowC (.slice av (x).sl.length cv) 132 2 (x).sl.length (slRow (x).sl), blk bw (.cells #[.pointer (some ⟨bwr, 0, none⟩)] 195), rowC (.slice sa' (y).sl.length sc') 132 2 (y).sl.length (slRow (y).sl), memC bm bc L1 ps.length, blk bY (.cells #[.int .i64 (y).lev, (.slice sa' y.sl.length sc'), .string (y).hi, .bool (y).la, .int .u64 (y).ri] 25), blk bl (.cells #[.int .i64 d.th, .int .i64 d.sn, .int .i64 d.no, .int .i64 d.ch, .int .i64 d.re, .int .i64 d.fa, .int .u64 d.cl] 30), blk bc0 (.cells #[.int .i64 d.th, .int .i64 d.sn, .int .i64 d.no, .int .i64 d.ch, .int .i64 d.re, .int .i64 d.fa, .int .u64 d.cl] 27)]))
          case first =>
            as_aux_lemma =>
            have Hs := Lib.hid hs
            clear hs
            refine region_effects [false, false, true, false, true, true] [2, 4, 5] (fun | 4 => [2] | 5 => [4] | _ => [])
              (GR (Know.of w) [wrC bwr id (ltLock 0) x (.slice av x.sl.length cv) g capp ps ps.length, rowC (.slice av (x).sl.length cv) 132 2 (x).sl.length (slRow (x).sl), blk bw (.cells #[.pointer (some ⟨bwr, 0, none⟩)] 195), rowC (.slice sa' (y).sl.length sc') 132 2 (y).sl.length (slRow (y).sl), memC bm bc L1 ps.length, blk bY (.cells #[.int .i64 (y).lev, (.slice sa' y.sl.length sc'), .string (y).hi, .bool (y).la, .int .u64 (y).ri] 25), blk bl (.cells #[.int .i64 d.th, .int .i64 d.sn, .int .i64 d.no, .int .i64 d.ch, .int .i64 d.re, .int .i64 d.fa, .int .u64 d.cl] 30), blk bc0 (.cells #[.int .i64 d.th, .int .i64 d.sn, .int .i64 d.no, .int .i64 d.ch, .int .i64 d.re, .int .i64 d.fa, .int .u64 d.cl] 27)] [2, 4, 5] (NwΦ d x y id (ltLock 0)))
              (fun W => St (Know.of w) W [wrC bwr id (ltLock 0) x (.slice av x.sl.length cv) g capp ps ps.length, rowC (.slice av (x).sl.length cv) 132 2 (x).sl.length (slRow (x).sl), blk bw (.cells #[.pointer (some ⟨bwr, 0, none⟩)] 195), rowC (.slice sa' (y).sl.length sc') 132 2 (y).sl.length (slRow (y).sl), memC bm bc L1 ps.length, blk bY (.cells #[.int .i64 (y).lev, (.slice sa' y.sl.length sc'), .string (y).hi, .bool (y).la, .int .u64 (y).ri] 25), blk bl (.cells #[.int .i64 d.th, .int .i64 d.sn, .int .i64 d.no, .int .i64 d.ch, .int .i64 d.re, .int .i64 d.fa, .int .u64 d.cl] 30), blk bc0 (.cells #[.int .i64 d.th, .int .i64 d.sn, .int .i64 d.no, .int .i64 d.ch, .int .i64 d.re, .int .i64 d.fa, .int .u64 d.cl] 27)]) ?cS (by kernel_rfl) ?cB ?cH ?caS ?c0 ?cI ?cR ?cE ?cQ
            case cB => as_aux_lemma => kernel_rfl
            case cH =>
              intro W2 hs
              have kl := hs.b6.k0
              have ky := hs.b5.k0
              clear hs
              simp only [withM]
              repeat (go_big_quiet_step (fail))
              refine wpQuiet_nil ?_
              rfl
            case caS => rfl
            case c0 => exact GR.start Hs.out
            case cI => exact fun ρ W2 h => h.rest
            case cR => exact fun ρ W2 W3 h hb => h.same hb
            case cE =>
              refine ⟨?c2, ?c4, ?c5, trivial⟩
              case c2 =>
                intro o ho ρ W2 h hcl h2 hd2 af haf
                obtain rfl := Option.some.inj ho
                replace haf : af = fillD _ ρ [] _ := haf
                obtain ⟨C, R', h1, hs, hnext⟩ := h.step NwΦ.mono 2 [] (by decide) (by decide) (by decide) h2 (by simp)
                simp only [fillD] at haf
                subst haf
                go_wp2_with fail
                refine (freshHeld_st (by omega) hs).mono ?_
                rintro e W3 ⟨va3, rfl, hs'⟩
                obtain ⟨a3, c3, rfl, _, _⟩ := hs'.row_read
                go_wp2
                exact ⟨rfl, _, rfl, hnext _ _ W3 ⟨a3, c3, rfl, rfl⟩ hs'⟩
              case c4 =>
                intro o ho ρ W2 h hcl h4 hd2 af haf
                obtain rfl := Option.some.inj ho
                replace haf : af = fillD _ ρ [2] _ := haf
                obtain ⟨v2, h2⟩ := Option.isSome_iff_exists.1 (hd2 2 (by show _ ∈ [2]; simp))
                obtain ⟨C, R', h1, hs, hnext⟩ := h.step NwΦ.mono 4 [2] (by decide) (by decide) (by decide) h4 (by simp [h2])
                obtain ⟨a3, c3, rfl, hc⟩ := h1 2 v2 (by simp) h2
                rw [show [2].flatMap C = [rowC (.slice a3 (x).sl.length c3) 132 2 (x).sl.length (slRow (x).sl)] by simp [hc]] at hs hnext
                simp only [fillD, h2, Option.getD_some, dstAt, List.getElem?_cons_succ, List.getElem?_cons_zero, Option.bind_some, Option.bind_none, Act.put, List.setIfInBounds_toArray, List.set_cons_zero, List.set_cons_succ] at haf
                subst haf
                go_wp2_with fail
                refine (newWrite_st hd.out (id := id) (word := ltLock 0) (by have := Hidb.out.1; omega) Hidn.out (ltLock_bd (x := 0) (by decide) (by decide)) Pox.out Poy.out Hlx.out Hly.out hs.b4.b1).mono ?_
                rintro e W3 ⟨bw2, b2, g2, cap2, va2, mid, ps2, rfl, hnew, hps2', hs'⟩
                go_wp2
                exact ⟨rfl, _, rfl, hnext _ _ W3 ⟨bw2, b2, g2, cap2, va2, mid, ps2, rfl, hnew, hps2', rfl⟩ hs'.b5.u8⟩
              case c5 =>
                intro o ho ρ W2 h hcl h5 hd2 af haf
                obtain rfl := Option.some.inj ho
                replace haf : af = fillD _ ρ [4] _ := haf
                obtain ⟨v4, h4⟩ := Option.isSome_iff_exists.1 (hd2 4 (by show _ ∈ [4]; simp))
                simp only [fillD, h4, Option.getD_some, dstAt, List.getElem?_cons_succ, List.getElem?_cons_zero, Option.bind_some, Option.bind_none, Act.put, List.setIfInBounds_toArray, List.set_cons_zero, List.set_cons_succ] at haf
                subst haf
                go_wp2
                exact ⟨rfl, _, rfl, h.know NwΦ.mono 5 (by decide) (by simp) h5 _ ⟨rfl, by simp [upd, h4]⟩⟩
            case cQ =>
              intro ρ W2 h hall
              obtain ⟨C, h1, hs⟩ := h.last hall
              obtain ⟨v2, h2, a3, c3, rfl, hc2⟩ := h1 2 (by simp)
              obtain ⟨v4, h4, bw2, b2, g2, cap2, va2, mid, ps2, rfl, hnew, hps2', hc4⟩ := h1 4 (by simp)
              obtain ⟨v5, h5, hc5, h45⟩ := h1 5 (by simp)
              obtain rfl := Option.some.inj (h4.symm.trans h45)
              simp only [fillD, h2, h4, h5, Option.getD_some, dstAt, List.getElem?_cons_succ, List.getElem?_cons_zero, Option.bind_some, Option.bind_none, Act.put, List.setIfInBounds_toArray, List.set_cons_zero, List.set_cons_succ]
              go_wp2
              go_meet
              simp only [List.flatMap_cons, List.flatMap_nil, hc2, hc4, hc5, List.nil_append, List.append_nil, List.cons_append] at hs
              exact ⟨bw2, b2, g2, cap2, va2, mid, ps2, rfl, hnew, hps2', hs.tail⟩
          case rest =>
            clear hs
            obtain ⟨bw2, b2, g2, cap2, va2, mid, ps2, rfl, hnew, hps2', hs⟩ := hcut
            have hs : St (Know.of w) _ (wrC b2 id (ltEnd (ltBegin (ltLock 0))) y va2 g2 cap2 ps2 0 :: memC bm bc L1 ps.length :: rowC (.slice (some ⟨g2, 0, none⟩) ps2.length cap2) 178 4 ps2.length (ptRow ps2) :: blk bw2 (.cells #[.pointer (some ⟨b2, 0, none⟩)] 182) :: slC va2 y :: rowC (.slice sa' (y).sl.length sc') 132 2 (y).sl.length (slRow (y).sl) :: blk bY (.cells #[.int .i64 (y).lev, (.slice sa' y.sl.length sc'), .string (y).hi, .bool (y).la, .int .u64 (y).ri] 25) :: blk bl (.cells #[.int .i64 d.th, .int .i64 d.sn, .int .i64 d.no, .int .i64 d.ch, .int .i64 d.re, .int .i64 d.fa, .int .u64 d.cl] 30) :: blk bc0 (.cells #[.int .i64 d.th, .int .i64 d.sn, .int .i64 d.no, .int .i64 d.ch, .int .i64 d.re, .int .i64 d.fa, .int .u64 d.cl] 27) :: []) := hs.b4.tail.b4.tail.b4.tail.b5.u1
            obtain ⟨w2, hw2⟩ : ∃ w2, w2 = ltEnd (ltBegin (ltLock 0)) := ⟨_, rfl⟩
            obtain ⟨n1, hn1⟩ : ∃ n1 : Nat, n1 = ps.length := ⟨_, rfl⟩
            have hlen2 : ps2.length = mid.length + 2 := by rw [hps2']; simp
            have hmid : mid.length ≤ 40 := by
              have h1 := hnew.1.length_le
              have h2 : (pgPts d id y).length = y.sl.length + 3 := by simp [pgPts, slPts_length]
              omega
            have hid1 : 1 ≤ id := by have := Hidb.out.1; omega
            have l2 := stage_last (c0 := ⟨ltBegin (ltLock 0), ⟨#[]⟩, 0⟩) (c1 := ⟨ltEnd (ltBegin (ltLock 0)), ⟨#[]⟩, 0⟩) hd.out (id := id) hid1 Hidn.out (mid := mid) Fl.out
            have p2 := (stage_end (c0 := ⟨ltBegin (ltLock 0), ⟨#[]⟩, 0⟩) (c1 := ⟨ltEnd (ltBegin (ltLock 0)), ⟨#[]⟩, 0⟩) hd.out hid1 Hidn.out Fh.out hnew Fl.out hley).page hd.out hid1 Hidn.out hley Hly.out Poy.out.la
            have hin2 : ∀ p, p ∈ ps2 → p.i = d.node id 0 ∨ p ∈ pgPts d id y := fun p hp => by
              rw [hps2'] at hp
              rcases List.mem_append.1 hp with hp | hp
              · rcases List.mem_cons.1 hp with rfl | hp
                · exact .inl rfl
                · exact .inr (hnew.1.subset hp)
              · simp only [List.mem_singleton] at hp
                subst hp
                exact .inl rfl
            have o2 : ∀ j : Int, (∀ k : Int, 0 ≤ k → k < d.fa + 4 → j ≠ d.node id k) → getC (putAll L1 ps2) j = getC L0 j := fun j hj => (pts_other hd.out hid1 Hidn.out hley hin2 hj).trans (Fother.out j hj)
            have c2k : CelsOk (putAll L1 ps2) := putAll_ok _ _ Fok.out (fun p hp => by
              rw [hps2'] at hp
              rcases List.mem_append.1 hp with hp | hp
              · rcases List.mem_cons.1 hp with rfl | hp
                · exact ltBegin_bd (ltLock_bd (x := 0) (by decide) (by decide)).1 (ltLock_bd (x := 0) (by decide) (by decide)).2
                · exact wf_u64 (pgPts_ok hd.out hid1 Hidn.out Poy.out Hly.out p (hnew.1.subset hp)).n
              · simp only [List.mem_singleton] at hp
                subst hp
                exact ltEnd_bd _)
            have fl2 : (putAll L1 ps2).length = L0.length := by rw [putAll_length, HL1.out, putAll_length]
            rw [← hps2'] at l2 p2
            rw [← hw2] at hs l2
            obtain ⟨L2, hL2⟩ : ∃ L2, L2 = putAll L1 ps2 := ⟨_, rfl⟩
            rw [← hL2] at l2 p2 o2 c2k fl2
            have HL2 := Lib.hid hL2
            have C2 := Lib.hid l2
            have P2 := Lib.hid p2
            have O2 := Lib.hid o2
            have K2 := Lib.hid c2k
            have Fl2 := Lib.hid fl2
            have Hw2 := Lib.hid hw2
            have Hn1 := Lib.hid hn1
            have hk1 : (1 : Int) + ((ps.length - 1 : Nat) : Int) = (n1 : Int) := by omega
            obtain ⟨hn1l, hn1u⟩ : 1 ≤ n1 ∧ n1 ≤ 40 := by omega
            obtain ⟨hps2l, hps2u⟩ : 2 ≤ ps2.length ∧ ps2.length ≤ 42 := by omega
            rw [← hn1] at hs
            rw [hk1]
            clear hps2' hlen2 hmid l2 p2 hin2 o2 c2k fl2 hL2 hw2 hn1 hnew hk1 hlast hlast' hk hps2 hps40 Fh Fc Fpg Fok Fother Qpk HL1
            go_wp2
            go_loopw [17] (fun v17 wr => ∃ j : Nat, j < ps2.length ∧ v17 = .int .i64 ((n1 : Int) + (j : Int)) ∧ St (Know.of w) wr (wrC b2 id w2 y va2 g2 cap2 ps2 j :: memC bm bc (putAll L1 (ps2.take j)) (n1 + j) :: rowC (.slice (some ⟨g2, 0, none⟩) ps2.length cap2) 178 4 ps2.length (ptRow ps2) :: blk bw2 (.cells #[.pointer (some ⟨b2, 0, none⟩)] 182) :: slC va2 y :: rowC (.slice sa' (y).sl.length sc') 132 2 (y).sl.length (slRow (y).sl) :: blk bY (.cells #[.int .i64 (y).lev, (.slice sa' y.sl.length sc'), .string (y).hi, .bool (y).la, .int .u64 (y).ri] 25) :: blk bl (.cells #[.int .i64 d.th, .int .i64 d.sn, .int .i64 d.no, .int .i64 d.ch, .int .i64 d.re, .int .i64 d.fa, .int .u64 d.cl] 30) :: blk bc0 (.cells #[.int .i64 d.th, .int .i64 d.sn, .int .i64 d.no, .int .i64 d.ch, .int .i64 d.re, .int .i64 d.fa, .int .u64 d.cl] 27) :: [])) (fun v _ => 200 - (intOf v).toNat)
            case atStart => exact ⟨0, by omega, by go_num, hs⟩
            case round =>
              clear hs
              obtain ⟨j, hj, rfl, hs⟩ := hrel
              obtain ⟨p, hp⟩ : ∃ p, ps2[j]? = some p := ⟨_, List.getElem?_eq_getElem hj⟩
              have q := writeStep_st (L := putAll L1 (ps2.take j)) hp (show n1 + j ≤ 1000000000000 by omega) hs
              rw [← putAll_take hp] at q
              clear hp hs
              by_cases hlast : j + 1 = ps2.length
              · rw [decide_eq_true hlast, hlast, List.take_length, ← HL2.out, show n1 + j + 1 = n1 + ps2.length by omega] at q
                have hj' := Lib.hid (show (n1 : Int) + (j : Int) = ((n1 + ps2.length - 1 : Nat) : Int) by omega)
                have Q := Lib.hid q
                clear q
                have hlt4 : (n1 : Int) + (j : Int) < 400 := by omega
                go_wp2_with fail
                refine (Q.out).mono ?_
                clear Q
                rintro e w7 ⟨rfl, hs⟩
                obtain ⟨a2, c2, rfl, _, _⟩ := (show St _ w7 (rowC va2 132 2 y.sl.length (slRow y.sl) :: _) from hs.b4).row_read
                have hs : St (Know.of w) w7 [wrC b2 id w2 y (.slice a2 y.sl.length c2) g2 cap2 ps2 ps2.length, rowC (.slice a2 (y).sl.length c2) 132 2 (y).sl.length (slRow (y).sl), blk bw2 (.cells #[.pointer (some ⟨b2, 0, none⟩)] 182), memC bm bc L2 (n1 + ps2.length), rowC (.slice sa' (y).sl.length sc') 132 2 (y).sl.length (slRow (y).sl), blk bY (.cells #[.int .i64 (y).lev, (.slice sa' y.sl.length sc'), .string (y).hi, .bool (y).la, .int .u64 (y).ri] 25), blk bl (.cells #[.int .i64 d.th, .int .i64 d.sn, .int .i64 d.no, .int .i64 d.ch, .int .i64 d.re, .int .i64 d.fa, .int .u64 d.cl] 30), blk bc0 (.cells #[.int .i64 d.th, .int .i64 d.sn, .int .i64 d.no, .int .i64 d.ch, .int .i64 d.re, .int .i64 d.fa, .int .u64 d.cl] 27)] := hs.b2.tail.b3.u1.b3.u2
                clear hlast
                have hj19 : (n1 : Int) + (j : Int) < 600 := by omega
                obtain ⟨n2, hn2⟩ : ∃ n2 : Nat, n2 = n1 + ps2.length - 1 := ⟨_, rfl⟩
                obtain ⟨n12, hn12⟩ : ∃ n12 : Nat, n12 = n1 + ps2.length := ⟨_, rfl⟩
                have H12 := Lib.hid (show n12 = n2 + 1 ∧ n2 ≤ 90 by omega)
                rw [hj'.out, ← hn2]
                rw [← hn12] at hs
                clear hn12 hn2 hj' hj19 hlt4 hj hps2l hps2u hn1l hn1u HL2 Hn1
                have Hw2b := Lib.hid (show 0 ≤ w2 ∧ w2 < 18446744073709551616 by rw [Hw2.out]; exact ltEnd_bd _)
                have lb := ltLock_bd (x := 0) (by decide) (by decide)
                have kc := hs.b7.k0
                go_wp2_with fail
                refine (writeHeld_st (by omega) hs).mono ?_
                rintro e w8 ⟨va3, rfl, hs'⟩
                obtain ⟨a3, c3, rfl, _, _⟩ := hs'.row_read
                have hs := hs'.tail
                clear hs' kc
                go_wp2_with fail
                refine (calls_same hs (Ql.out _)).mono ?_
                clear hs
                rintro e w9 ⟨rfl, hs⟩
                go_wp2_with fail
                refine (calls_id hs (ltBegin_any (ltLock 0) lb.1 lb.2 w9)).mono ?_
                clear hs
                rintro e w10 ⟨rfl, hs⟩
                go_wp2_with fail
                refine (calls_id hs (ltEnd_any _ (ltBegin_bd lb.1 lb.2).1 (ltBegin_bd lb.1 lb.2).2 w10)).mono ?_
                clear hs
                rintro e w11 ⟨rfl, hs⟩
                rw [← Hw2.out]
                have kc := hs.b7.k0
                go_wp2_with fail
                refine (calls_same hs (Qn.out _)).mono ?_
                clear hs kc
                rintro e w12 ⟨rfl, hs⟩
                go_wp2_with fail
                have q := peek_st hs hs.mem3 (i := d.node id 0)
                rw [C2.out] at q
                refine q.mono ?_
                clear hs q
                rintro e w13 ⟨rfl, hs⟩
                go_wp2_with fail
                refine (writeHeld_st (by omega) hs).mono ?_
                rintro e w14 ⟨va4, rfl, hs'⟩
                obtain ⟨a4, c4, rfl, _, _⟩ := hs'.row_read
                have hs := hs'.tail
                clear hs'
                go_upto_region 19 with (fail)
                go_cut [19, 20] (fun v19 v20 wx => ∃ bo br : Nat, v19 = .pointer (some ⟨bo, 0, none⟩) ∧ v20 = .pointer (some ⟨br, 0, none⟩) ∧ St (Know.of w) wx (ownC bo d id (.slice none 0 0) (own0 w2) :: slC (.slice none 0 0) pg0 :: rdC br d id (.slice none 0 0) rd0 :: slC (.slice none 0 0) pg0 :: [wrC b2 id w2 y (.slice a2 y.sl.length c2) g2 cap2 ps2 ps2.length, rowC (.slice a2 (y).sl.length c2) 132 2 (y).sl.length (slRow (y).sl), blk bw2 (.cells #[.pointer (some ⟨b2, 0, none⟩)] 182), memC bm bc L2 n12, rowC (.slice sa' (y).sl.length sc') 132 2 (y).sl.length (slRow (y).sl), blk bY (.cells #[.int .i64 (y).lev, (.slice sa' y.sl.length sc'), .string (y).hi, .bool (y).la, .int .u64 (y).ri] 25), blk bl (.cells #[.int .i64 d.th, .int .i64 d.sn, .int .i64 d.no, .int .i64 d.ch, .int .i64 d.re, .int .i64 d.fa, .int .u64 d.cl] 30), blk bc0 (.cells #[.int .i64 d.th, .int .i64 d.sn, .int .i64 d.no, .int .i64 d.ch, .int .i64 d.re, .int .i64 d.fa, .int .u64 d.cl] 27)]))
                case first =>
                  as_aux_lemma =>
                  have Hs := Lib.hid hs
                  clear hs
                  refine region_effectsK [false, false, false, true, true, true, false, false, true, true, true] (fun | 4 => some (.int .u64 w2) | _ => none) [3, 4, 5, 8, 9, 10] (fun | 4 => [3] | 5 => [4] | 9 => [5] | 10 => [8] | _ => [])
                    (GR (Know.of w) [wrC b2 id w2 y (.slice a2 y.sl.length c2) g2 cap2 ps2 ps2.length, rowC (.slice a2 (y).sl.length c2) 132 2 (y).sl.length (slRow (y).sl), blk bw2 (.cells #[.pointer (some ⟨b2, 0, none⟩)] 182), memC bm bc L2 n12, rowC (.slice sa' (y).sl.length sc') 132 2 (y).sl.length (slRow (y).sl), blk bY (.cells #[.int .i64 (y).lev, (.slice sa' y.sl.length sc'), .string (y).hi, .bool (y).la, .int .u64 (y).ri] 25), blk bl (.cells #[.int .i64 d.th, .int .i64 d.sn, .int .i64 d.no, .int .i64 d.ch, .int .i64 d.re, .int .i64 d.fa, .int .u64 d.cl] 30), blk bc0 (.cells #[.int .i64 d.th, .int .i64 d.sn, .int .i64 d.no, .int .i64 d.ch, .int .i64 d.re, .int .i64 d.fa, .int .u64 d.cl] 27)] [3, 4, 5, 8, 9, 10] (OwΦ d y id w2))
                    (fun W => St (Know.of w) W [wrC b2 id w2 y (.slice a2 y.sl.length c2) g2 cap2 ps2 ps2.length, rowC (.slice a2 (y).sl.length c2) 132 2 (y).sl.length (slRow (y).sl), blk bw2 (.cells #[.pointer (some ⟨b2, 0, none⟩)] 182), memC bm bc L2 n12, rowC (.slice sa' (y).sl.length sc') 132 2 (y).sl.length (slRow (y).sl), blk bY (.cells #[.int .i64 (y).lev, (.slice sa' y.sl.length sc'), .string (y).hi, .bool (y).la, .int .u64 (y).ri] 25), blk bl (.cells #[.int .i64 d.th, .int .i64 d.sn, .int .i64 d.no, .int .i64 d.ch, .int .i64 d.re, .int .i64 d.fa, .int .u64 d.cl] 30), blk bc0 (.cells #[.int .i64 d.th, .int .i64 d.sn, .int .i64 d.no, .int .i64 d.ch, .int .i64 d.re, .int .i64 d.fa, .int .u64 d.cl] 27)]) ?dS (by kernel_rfl) ?dB ?dH ?daS ?d0 ?dI ?dR ?dE ?dQ
                  case dB => as_aux_lemma => kernel_rfl
                  case dH =>
                    intro W2 hs
                    have kl := hs.b6.k0
                    clear hs
                    simp only [withK]
                    repeat (go_big_quiet_step (fail))
                    refine wpQuiet_nil ?_
                    rfl
                  case daS => rfl
                  case d0 => exact GR.start Hs.out
                  case dI => exact fun ρ W2 h => h.rest
                  case dR => exact fun ρ W2 W3 h hb => h.same hb
                  case dE =>
                    refine ⟨?d3, ?d4, ?d5, ?d8, ?d9, ?d10, trivial⟩
                    case d3 =>
                      intro o ho ρ W2 h hcl h3 hd2 af haf
                      obtain rfl := Option.some.inj ho
                      replace haf : af = fillD _ ρ [] _ := haf
                      obtain ⟨C, R', h1, hs, hnext⟩ := h.step OwΦ.mono 3 [] (by decide) (by decide) (by decide) h3 (by simp)
                      simp only [fillD] at haf
                      subst haf
                      go_wp2_with fail
                      refine (writeHeld_st (by omega) hs).mono ?_
                      rintro e W3 ⟨va5, rfl, hs'⟩
                      obtain ⟨a5, c5, rfl, _, _⟩ := hs'.row_read
                      go_wp2
                      exact ⟨rfl, _, rfl, fun u hu => (by cases hu), hnext _ _ W3 ⟨a5, c5, rfl, rfl⟩ hs'⟩
                    case d4 =>
                      intro o ho ρ W2 h hcl h4 hd2 af haf
                      obtain rfl := Option.some.inj ho
                      replace haf : af = fillD _ ρ [3] _ := haf
                      obtain ⟨v3, h3⟩ := Option.isSome_iff_exists.1 (hd2 3 (by show _ ∈ [3]; simp))
                      obtain ⟨cs3, R3, ⟨a5, c5, rfl, _⟩, _⟩ := h.at 3 (by simp) h3
                      simp only [fillD, h3, Option.getD_some, dstAt, List.getElem?_cons_succ, List.getElem?_cons_zero, Option.bind_some, Option.bind_none, Act.put, List.setIfInBounds_toArray, List.set_cons_zero, List.set_cons_succ] at haf
                      subst haf
                      go_wp2
                      exact ⟨rfl, _, rfl, fun u hu => Option.some.inj hu, h.know OwΦ.mono 4 (by decide) (by simp) h4 _ ⟨rfl, rfl⟩⟩
                    case d5 =>
                      intro o ho ρ W2 h hcl h5 hd2 af haf
                      obtain rfl := Option.some.inj ho
                      replace haf : af = fillD _ ρ [4] _ := haf
                      obtain ⟨v4, h4⟩ := Option.isSome_iff_exists.1 (hd2 4 (by show _ ∈ [4]; simp))
                      obtain ⟨cs4, R4, ⟨rfl, _⟩, _⟩ := h.at 4 (by simp) h4
                      simp only [fillD, h4, Option.getD_some, dstAt, List.getElem?_cons_succ, List.getElem?_cons_zero, Option.bind_some, Option.bind_none, Act.put, List.setIfInBounds_toArray, List.set_cons_zero, List.set_cons_succ] at haf
                      subst haf
                      obtain ⟨C, R', h1, hs, hnext⟩ := h.step OwΦ.mono 5 [] (by decide) (by decide) (by decide) h5 (by simp)
                      go_wp2_with fail
                      refine (newOwn_st hs).mono ?_
                      rintro e W3 ⟨bo, rfl, hs'⟩
                      go_wp2
                      exact ⟨rfl, _, rfl, fun u hu => (by cases hu), hnext _ _ W3 ⟨bo, rfl, rfl⟩ hs'⟩
                    case d8 =>
                      intro o ho ρ W2 h hcl h8 hd2 af haf
                      obtain rfl := Option.some.inj ho
                      replace haf : af = fillD _ ρ [] _ := haf
                      obtain ⟨C, R', h1, hs, hnext⟩ := h.step OwΦ.mono 8 [] (by decide) (by decide) (by decide) h8 (by simp)
                      simp only [fillD] at haf
                      subst haf
                      go_wp2_with fail
                      refine (newRead_st hs).mono ?_
                      rintro e W3 ⟨br, rfl, hs'⟩
                      go_wp2
                      exact ⟨rfl, _, rfl, fun u hu => (by cases hu), hnext _ _ W3 ⟨br, rfl, rfl⟩ hs'⟩
                    case d9 =>
                      intro o ho ρ W2 h hcl h9 hd2 af haf
                      obtain rfl := Option.some.inj ho
                      replace haf : af = fillD _ ρ [5] _ := haf
                      obtain ⟨v5, h5⟩ := Option.isSome_iff_exists.1 (hd2 5 (by show _ ∈ [5]; simp))
                      simp only [fillD, h5, Option.getD_some, dstAt, List.getElem?_cons_succ, List.getElem?_cons_zero, Option.bind_some, Option.bind_none, Act.put, List.setIfInBounds_toArray, List.set_cons_zero, List.set_cons_succ] at haf
                      subst haf
                      go_wp2
                      exact ⟨rfl, _, rfl, fun u hu => (by cases hu), h.know OwΦ.mono 9 (by decide) (by simp) h9 _ ⟨rfl, by simp [upd, h5]⟩⟩
                    case d10 =>
                      intro o ho ρ W2 h hcl h10 hd2 af haf
                      obtain rfl := Option.some.inj ho
                      replace haf : af = fillD _ ρ [8] _ := haf
                      obtain ⟨v8, h8⟩ := Option.isSome_iff_exists.1 (hd2 8 (by show _ ∈ [8]; simp))
                      simp only [fillD, h8, Option.getD_some, dstAt, List.getElem?_cons_succ, List.getElem?_cons_zero, Option.bind_some, Option.bind_none, Act.put, List.setIfInBounds_toArray, List.set_cons_zero, List.set_cons_succ] at haf
                      subst haf
                      go_wp2
                      exact ⟨rfl, _, rfl, fun u hu => (by cases hu), h.know OwΦ.mono 10 (by decide) (by simp) h10 _ ⟨rfl, by simp [upd, h8]⟩⟩
                  case dQ =>
                    intro ρ W2 h hall
                    obtain ⟨C, h1, hs⟩ := h.last hall
                    obtain ⟨v3, h3, a5, c5, rfl, hc3⟩ := h1 3 (by simp)
                    obtain ⟨v4, h4, rfl, hc4⟩ := h1 4 (by simp)
                    obtain ⟨v5, h5, bo, rfl, hc5⟩ := h1 5 (by simp)
                    obtain ⟨v8, h8, br, rfl, hc8⟩ := h1 8 (by simp)
                    obtain ⟨v9, h9, hc9, h59⟩ := h1 9 (by simp)
                    obtain ⟨v10, h10, hc10, h810⟩ := h1 10 (by simp)
                    obtain rfl := Option.some.inj (h5.symm.trans h59)
                    obtain rfl := Option.some.inj (h8.symm.trans h810)
                    simp only [fillD, h3, h4, h5, h8, h9, h10, Option.getD_some, dstAt, List.getElem?_cons_succ, List.getElem?_cons_zero, Option.bind_some, Option.bind_none, Act.put, List.setIfInBounds_toArray, List.set_cons_zero, List.set_cons_succ]
                    go_wp2
                    go_meet
                    simp only [List.flatMap_cons, List.flatMap_nil, hc3, hc4, hc5, hc8, hc9, hc10, List.nil_append, List.append_nil, List.cons_append] at hs
                    exact ⟨bo, br, rfl, rfl, hs.tail⟩
                case rest =>
                  clear hs
                  obtain ⟨bo, br, rfl, rfl, hs⟩ := hcut
                  have hs := hs.b7.u2
                  obtain ⟨hn2u, hyl⟩ : n2 ≤ 90 ∧ y.sl.length ≤ 36 := ⟨H12.out.2, by omega⟩
                  have hacc : n12 ≤ 100 := by have := H12.out.1; omega
                  have Oko := Lib.hid (fun n => own_oks hd.out K2.out (id := id) (word := w2) n)
                  have Oend := Lib.hid (fun n h6 => own_end P2.out (word := w2) (n := n) h6)
                  have Omore := Lib.hid (fun n h6 => own_more P2.out (word := w2) (n := n) h6)
                  have hchg : ltChg (getC L2 (d.node id 0)).n = false := by rw [C2.out, Hw2.out]; exact ltEnd_chg (ltBegin_bd (ltLock_bd (x := 0) (by decide) (by decide)).1 (ltLock_bd (x := 0) (by decide) (by decide)).2).1
                  have Okr := Lib.hid (fun n => rd_oks hd.out K2.out (s := rd0) (id := id) (rd0_ok d) n)
                  have Rend := Lib.hid (fun n h6 => rd_page P2.out hchg (s := rd0) rfl (n := n) h6)
                  have Rmore := Lib.hid (fun n h6 => rd_more P2.out hchg (s := rd0) rfl (n := n) h6)
                  clear hchg
                  go_wp2
                  go_loopw [17] (fun v17 wr => ∃ (j : Nat) (va : Value), v17 = .int .i64 ((n2 : Int) + (j : Int)) ∧ (it (ownStep d id L2) j (own0 w2)).pc ≠ 6 ∧ St (Know.of w) wr (ownC bo d id va (it (ownStep d id L2) j (own0 w2)) :: slC va (it (ownStep d id L2) j (own0 w2)).pg :: memC bm bc L2 (n12 + j) :: rdC br d id (.slice none 0 0) rd0 :: slC (.slice none 0 0) pg0 :: wrC b2 id w2 y (.slice a2 y.sl.length c2) g2 cap2 ps2 ps2.length :: rowC (.slice a2 (y).sl.length c2) 132 2 (y).sl.length (slRow (y).sl) :: blk bw2 (.cells #[.pointer (some ⟨b2, 0, none⟩)] 182) :: rowC (.slice sa' (y).sl.length sc') 132 2 (y).sl.length (slRow (y).sl) :: blk bY (.cells #[.int .i64 (y).lev, (.slice sa' y.sl.length sc'), .string (y).hi, .bool (y).la, .int .u64 (y).ri] 25) :: blk bl (.cells #[.int .i64 d.th, .int .i64 d.sn, .int .i64 d.no, .int .i64 d.ch, .int .i64 d.re, .int .i64 d.fa, .int .u64 d.cl] 30) :: blk bc0 (.cells #[.int .i64 d.th, .int .i64 d.sn, .int .i64 d.no, .int .i64 d.ch, .int .i64 d.re, .int .i64 d.fa, .int .u64 d.cl] 27) :: [])) (fun v _ => 200 - (intOf v).toNat)
                  case atStart => exact ⟨0, .slice none 0 0, by go_num, (by show (1 : Nat) ≠ 6; decide), hs⟩
                  case round =>
                    clear hs
                    obtain ⟨j, va, rfl, hp6, hs⟩ := hrel
                    have hj := Omore.out j hp6
                    have q := ownStep_st hd.out Hid1.out K2.out (by omega) (Oko.out j) hp6 hs
                    rw [← it_succ (ownStep d id L2) j (own0 w2)] at q
                    clear hs hp6
                    have hlt6 : (n2 : Int) + (j : Int) < 600 := by omega
                    by_cases h6 : (it (ownStep d id L2) (j + 1) (own0 w2)).pc = 6
                    · rw [decide_eq_true h6, Oend.out _ h6] at q
                      clear h6
                      have Q := Lib.hid q
                      clear q
                      go_wp2_with fail
                      refine (Q.out).mono ?_
                      clear Q
                      rintro e w15 ⟨va6, rfl, hs⟩
                      obtain ⟨a6, c6, rfl, _, _⟩ := (show St _ w15 (rowC va6 132 2 y.sl.length (slRow y.sl) :: _) from hs.b1).row_read
                      have hs := hs.b3.b4.b1.b4.u2
                      obtain ⟨n3, hn3⟩ : ∃ n3 : Nat, n3 = n2 + j := ⟨_, rfl⟩
                      obtain ⟨n13, hn13⟩ : ∃ n13 : Nat, n13 = n12 + j + 1 := ⟨_, rfl⟩
                      have H13 := Lib.hid (show n13 = n3 + 2 by have := H12.out.1; omega)
                      have hn3u : n3 ≤ 130 := by omega
                      have hacc3 : n13 ≤ 140 := by omega
                      rw [← hn13] at hs
                      rw [show (n2 : Int) + (j : Int) = (n3 : Int) by omega]
                      clear hn3 hn13 hj hlt6 hn2u hacc Oko Oend Omore
                      go_wp2
                      go_loopw [17] (fun v17 wr => ∃ (j : Nat) (va : Value), v17 = .int .i64 ((n3 : Int) + (j : Int)) ∧ (it (rdStep d id L2) j rd0).pc < 6 ∧ St (Know.of w) wr (rdC br d id va (it (rdStep d id L2) j rd0) :: slC va (it (rdStep d id L2) j rd0).pg :: memC bm bc L2 (n13 + j) :: ownC bo d id (.slice a6 y.sl.length c6) ⟨6, y, 0, w2, false⟩ :: rowC (.slice a6 (y).sl.length c6) 132 2 (y).sl.length (slRow (y).sl) :: wrC b2 id w2 y (.slice a2 y.sl.length c2) g2 cap2 ps2 ps2.length :: rowC (.slice a2 (y).sl.length c2) 132 2 (y).sl.length (slRow (y).sl) :: blk bw2 (.cells #[.pointer (some ⟨b2, 0, none⟩)] 182) :: rowC (.slice sa' (y).sl.length sc') 132 2 (y).sl.length (slRow (y).sl) :: blk bY (.cells #[.int .i64 (y).lev, (.slice sa' y.sl.length sc'), .string (y).hi, .bool (y).la, .int .u64 (y).ri] 25) :: blk bl (.cells #[.int .i64 d.th, .int .i64 d.sn, .int .i64 d.no, .int .i64 d.ch, .int .i64 d.re, .int .i64 d.fa, .int .u64 d.cl] 30) :: blk bc0 (.cells #[.int .i64 d.th, .int .i64 d.sn, .int .i64 d.no, .int .i64 d.ch, .int .i64 d.re, .int .i64 d.fa, .int .u64 d.cl] 27) :: [])) (fun v _ => 200 - (intOf v).toNat)
                      case atStart => exact ⟨0, .slice none 0 0, by go_num, (by show (0 : Nat) < 6; decide), hs⟩
                      case round =>
                        clear hs
                        obtain ⟨j, va, rfl, hp6, hs⟩ := hrel
                        have hj := Rmore.out j hp6
                        have q := rdStep_st hd.out Hid1.out K2.out (by omega) (Okr.out j) hs
                        rw [← it_succ (rdStep d id L2) j rd0, show rdAcc (it (rdStep d id L2) j rd0).pc (n13 + j) = n13 + j + 1 from if_neg (by omega)] at q
                        have hok := Okr.out (j + 1)
                        clear hs hp6
                        have hlt8 : (n3 : Int) + (j : Int) < 800 := by omega
                        by_cases h6 : 6 ≤ (it (rdStep d id L2) (j + 1) rd0).pc
                        · rw [decide_eq_true h6] at q
                          have e6 : (it (rdStep d id L2) (j + 1) rd0).pc = 6 := by have := hok.pc; omega
                          have hpg := Rend.out (j + 1) e6
                          clear h6 hok Okr Rend Rmore
                          generalize it (rdStep d id L2) (j + 1) rd0 = s2 at *
                          obtain ⟨pc2, pg2, left2, word2, t2⟩ := s2
                          simp only at e6 hpg
                          have hpg' := hpg.symm
                          subst e6 hpg'
                          have Q := Lib.hid q
                          clear q
                          go_wp2_with fail
                          refine (Q.out).mono ?_
                          clear Q
                          rintro e w16 ⟨va7, rfl, hs⟩
                          obtain ⟨n4, hn4⟩ : ∃ n4 : Nat, n4 = n3 + j := ⟨_, rfl⟩
                          have hn4u : n4 < 200 := by omega
                          have h4a : n13 + j + 1 = n4 + 3 := by have := H13.out; omega
                          rw [h4a] at hs
                          rw [show (n3 : Int) + (j : Int) = (n4 : Int) by omega]
                          have qpk := fun K wz F (hz : St K wz (memC bm bc L2 (n4 + 3) :: F)) => peek_st2 hd.out (id := id) (by have := Hidb.out.1; omega) Hidn.out K2.out hz
                          rw [pgOf_at P2.out] at qpk
                          have Qpk := Lib.hid qpk
                          clear qpk h4a hn4 hj hlt8 H13 hacc3 hn3u
                          have hs : St (Know.of w) w16 [memC bm bc L2 (n4 + 3), rdC br d id va7 ⟨6, y, left2, word2, t2⟩, slC va7 y, ownC bo d id (.slice a6 y.sl.length c6) ⟨6, y, 0, w2, false⟩, rowC (.slice a6 (y).sl.length c6) 132 2 (y).sl.length (slRow (y).sl), wrC b2 id w2 y (.slice a2 y.sl.length c2) g2 cap2 ps2 ps2.length, rowC (.slice a2 (y).sl.length c2) 132 2 (y).sl.length (slRow (y).sl), blk bw2 (.cells #[.pointer (some ⟨b2, 0, none⟩)] 182), rowC (.slice sa' (y).sl.length sc') 132 2 (y).sl.length (slRow (y).sl), blk bY (.cells #[.int .i64 (y).lev, (.slice sa' y.sl.length sc'), .string (y).hi, .bool (y).la, .int .u64 (y).ri] 25), blk bl (.cells #[.int .i64 d.th, .int .i64 d.sn, .int .i64 d.no, .int .i64 d.ch, .int .i64 d.re, .int .i64 d.fa, .int .u64 d.cl] 30), blk bc0 (.cells #[.int .i64 d.th, .int .i64 d.sn, .int .i64 d.no, .int .i64 d.ch, .int .i64 d.re, .int .i64 d.fa, .int .u64 d.cl] 27)] := hs.b2
                          go_upto_region 24 with (fail)
                          go_cut [216] (fun v216 wx => v216 = .bool false ∧ St (Know.of w) wx [memC bm bc L2 (n4 + 3), rdC br d id va7 ⟨6, y, left2, word2, t2⟩, slC va7 y, ownC bo d id (.slice a6 y.sl.length c6) ⟨6, y, 0, w2, false⟩, rowC (.slice a6 (y).sl.length c6) 132 2 (y).sl.length (slRow (y).sl), wrC b2 id w2 y (.slice a2 y.sl.length c2) g2 cap2 ps2 ps2.length, rowC (.slice a2 (y).sl.length c2) 132 2 (y).sl.length (slRow (y).sl), blk bw2 (.cells #[.pointer (some ⟨b2, 0, none⟩)] 182), rowC (.slice sa' (y).sl.length sc') 132 2 (y).sl.length (slRow (y).sl), blk bY (.cells #[.int .i64 (y).lev, (.slice sa' y.sl.length sc'), .string (y).hi, .bool (y).la, .int .u64 (y).ri] 25), blk bl (.cells #[.int .i64 d.th, .int .i64 d.sn, .int .i64 d.no, .int .i64 d.ch, .int .i64 d.re, .int .i64 d.fa, .int .u64 d.cl] 30), blk bc0 (.cells #[.int .i64 d.th, .int .i64 d.sn, .int .i64 d.no, .int .i64 d.ch, .int .i64 d.re, .int .i64 d.fa, .int .u64 d.cl] 27)])
                          case first =>
                            as_aux_lemma =>
                            have Hs := Lib.hid hs
                            clear hs
                            refine region_effectsK [false, false, false, false, false, false, false, false, false, false, false, false, true, false, true, false, false, false, false, true, true, false, true, false, false, false, false, true, true, false, false, false, false, false, true, true, false, true, true, false, false, false, false, false, false, true, false, true, false, false] (fun | 14 => some (.bool true) | 22 => some (.bool true) | 28 => some (.int .u64 id) | 35 => some (.int .u64 w2) | 38 => some (.int .u64 w2) | 47 => some (.bool true) | _ => none) [12, 14, 19, 20, 22, 27, 28, 34, 35, 37, 38, 45, 47] (fun | 14 => [12] | 20 => [19] | 22 => [20] | 28 => [27] | 35 => [34] | 38 => [37] | 47 => [45] | _ => [])
                              (GR (Know.of w) [memC bm bc L2 (n4 + 3), rdC br d id va7 ⟨6, y, left2, word2, t2⟩, slC va7 y, ownC bo d id (.slice a6 y.sl.length c6) ⟨6, y, 0, w2, false⟩, rowC (.slice a6 (y).sl.length c6) 132 2 (y).sl.length (slRow (y).sl), wrC b2 id w2 y (.slice a2 y.sl.length c2) g2 cap2 ps2 ps2.length, rowC (.slice a2 (y).sl.length c2) 132 2 (y).sl.length (slRow (y).sl), blk bw2 (.cells #[.pointer (some ⟨b2, 0, none⟩)] 182), rowC (.slice sa' (y).sl.length sc') 132 2 (y).sl.length (slRow (y).sl), blk bY (.cells #[.int .i64 (y).lev, (.slice sa' y.sl.length sc'), .string (y).hi, .bool (y).la, .int .u64 (y).ri] 25), blk bl (.cells #[.int .i64 d.th, .int .i64 d.sn, .int .i64 d.no, .int .i64 d.ch, .int .i64 d.re, .int .i64 d.fa, .int .u64 d.cl] 30), blk bc0 (.cells #[.int .i64 d.th, .int .i64 d.sn, .int .i64 d.no, .int .i64 d.ch, .int .i64 d.re, .int .i64 d.fa, .int .u64 d.cl] 27)] [12, 14, 19, 20, 22, 27, 28, 34, 35, 37, 38, 45, 47] (RwΦ y id w2))
                              (fun W => St (Know.of w) W [memC bm bc L2 (n4 + 3), rdC br d id va7 ⟨6, y, left2, word2, t2⟩, slC va7 y, ownC bo d id (.slice a6 y.sl.length c6) ⟨6, y, 0, w2, false⟩, rowC (.slice a6 (y).sl.length c6) 132 2 (y).sl.length (slRow (y).sl), wrC b2 id w2 y (.slice a2 y.sl.length c2) g2 cap2 ps2 ps2.length, rowC (.slice a2 (y).sl.length c2) 132 2 (y).sl.length (slRow (y).sl), blk bw2 (.cells #[.pointer (some ⟨b2, 0, none⟩)] 182), rowC (.slice sa' (y).sl.length sc') 132 2 (y).sl.length (slRow (y).sl), blk bY (.cells #[.int .i64 (y).lev, (.slice sa' y.sl.length sc'), .string (y).hi, .bool (y).la, .int .u64 (y).ri] 25), blk bl (.cells #[.int .i64 d.th, .int .i64 d.sn, .int .i64 d.no, .int .i64 d.ch, .int .i64 d.re, .int .i64 d.fa, .int .u64 d.cl] 30), blk bc0 (.cells #[.int .i64 d.th, .int .i64 d.sn, .int .i64 d.no, .int .i64 d.ch, .int .i64 d.re, .int .i64 d.fa, .int .u64 d.cl] 27)]) ?fS (by kernel_rfl) ?fB ?fH ?faS ?f0 ?fI ?fR ?fE ?fQ
                            case fB => as_aux_lemma => kernel_rfl
                            case fH =>
                              intro W2 hs
                              have kl := hs.b10.k0
                              have ky := hs.b9.k0
                              have Qa := Lib.hid (fun wz (hy : ∃ x : Ext, wz = over W2 x) => (accesses_any wz bm bc L2 (n4 + 3 : Nat) ((hs.same (Pure.below hy)).mem)).mono (by rintro e w' ⟨rfl, rfl⟩; exact And.intro (by simp) (Below.refl _ _) : ∀ e w', _ → (e = .returned (.int .u64 ((n4 : Int) + 3)) ∧ Below wz.heap.size wz w')))
                              clear hs
                              have hn4v : ¬ ((200 : Int) ≤ (n4 : Int)) := by omega
                              have hn4w : ¬ ((n4 : Int) + 4 < (n4 : Int) + 3) := by omega
                              simp only [withK]
                              repeat (go_big_quiet_step ((go_at_call 28; exact pure_of (Qa.out _ ⟨_, rfl⟩))))
                              refine wpQuiet_nil ?_
                              rfl
                            case faS => rfl
                            case f0 => exact GR.start Hs.out
                            case fI => exact fun ρ W2 h => h.rest
                            case fR => exact fun ρ W2 W3 h hb => h.same hb
                            case fE =>
                              -- <FE
                              refine ⟨?f12, ?f14, ?f19, ?f20, ?f22, ?f27, ?f28, ?f34, ?f35, ?f37, ?f38, ?f45, ?f47, trivial⟩
                              case f12 =>
                                intro o ho ρ W2 h hcl h12 hd2 af haf
                                obtain rfl := Option.some.inj ho
                                replace haf : af = fillD _ ρ [] _ := haf
                                obtain ⟨C, R', h1, hs, hnext⟩ := h.step RwΦ.mono 12 [] (by decide) (by decide) (by decide) h12 (by simp)
                                simp only [fillD] at haf
                                subst haf
                                go_wp2_with fail
                                refine (rdPage_st rfl (by show y.sl.length ≤ _; omega) hs.b2.b2).mono ?_
                                rintro e W3 ⟨va8, rfl, hs'⟩
                                obtain ⟨a8, c8, rfl, _, _⟩ := (show St _ W3 (rowC va8 132 2 y.sl.length (slRow y.sl) :: _) from hs').row_read
                                go_wp2
                                exact ⟨rfl, _, rfl, fun u hu => (by cases hu), hnext _ _ W3 ⟨a8, c8, rfl, rfl⟩ hs'.b3.u1⟩
                              case f14 =>
                                intro o ho ρ W2 h hcl h14 hd2 af haf
                                obtain rfl := Option.some.inj ho
                                replace haf : af = fillD _ ρ [12] _ := haf
                                obtain ⟨v12, h12⟩ := Option.isSome_iff_exists.1 (hd2 12 (by show _ ∈ [12]; simp))
                                obtain ⟨cs8, R8, ⟨a8, c8, rfl, rfl⟩, hs8⟩ := h.at 12 (by simp) h12
                                have s8 := hs8.row_slots (by omega)
                                have sx := (h.rest).b8.row_slots (by omega)
                                simp only [fillD, h12, Option.getD_some, dstAt, List.getElem?_cons_succ, List.getElem?_cons_zero, Option.bind_some, Option.bind_none, Act.put, List.setIfInBounds_toArray, List.set_cons_zero, List.set_cons_succ] at haf
                                subst haf
                                go_wp2_with fail
                                refine (samePage_any _ s8 sx).mono ?_
                                rintro e W3 ⟨rfl, hb⟩
                                go_wp2
                                exact ⟨rfl, _, rfl, fun u hu => Option.some.inj hu, (h.same hb).know RwΦ.mono 14 (by decide) (by simp) h14 _ ⟨rfl, rfl⟩⟩
                              case f19 =>
                                intro o ho ρ W2 h hcl h19 hd2 af haf
                                obtain rfl := Option.some.inj ho
                                replace haf : af = fillD _ ρ [] _ := haf
                                obtain ⟨C, R', h1, hs, hnext⟩ := h.step RwΦ.mono 19 [] (by decide) (by decide) (by decide) h19 (by simp)
                                simp only [fillD] at haf
                                subst haf
                                go_wp2_with fail
                                refine (ownHeld_st (by omega) hs.b4.b4).mono ?_
                                rintro e W3 ⟨va8, rfl, hs'⟩
                                obtain ⟨a8, c8, rfl, _, _⟩ := (show St _ W3 (rowC va8 132 2 y.sl.length (slRow y.sl) :: _) from hs').row_read
                                go_wp2
                                exact ⟨rfl, _, rfl, fun u hu => (by cases hu), hnext _ _ W3 ⟨a8, c8, rfl, rfl⟩ hs'.b1.u5.b1.u5⟩
                              case f20 =>
                                intro o ho ρ W2 h hcl h20 hd2 af haf
                                obtain rfl := Option.some.inj ho
                                replace haf : af = fillD _ ρ [19] _ := haf
                                obtain ⟨v19, h19⟩ := Option.isSome_iff_exists.1 (hd2 19 (by show _ ∈ [19]; simp))
                                obtain ⟨cs8, R8, ⟨a8, c8, rfl, _⟩, _⟩ := h.at 19 (by simp) h19
                                simp only [fillD, h19, Option.getD_some, dstAt, List.getElem?_cons_succ, List.getElem?_cons_zero, Option.bind_some, Option.bind_none, Act.put, List.setIfInBounds_toArray, List.set_cons_zero, List.set_cons_succ] at haf
                                subst haf
                                go_wp2
                                exact ⟨rfl, _, rfl, fun u hu => (by cases hu), h.know RwΦ.mono 20 (by decide) (by simp) h20 _ ⟨a8, c8, rfl, rfl, by simp [upd, h19]⟩⟩
                              case f22 =>
                                intro o ho ρ W2 h hcl h22 hd2 af haf
                                obtain rfl := Option.some.inj ho
                                replace haf : af = fillD _ ρ [20] _ := haf
                                obtain ⟨v20, h20⟩ := Option.isSome_iff_exists.1 (hd2 20 (by show _ ∈ [20]; simp))
                                obtain ⟨cs7, R7, ⟨a7, c7, rfl, _, h19⟩, _⟩ := h.at 20 (by simp) h20
                                obtain ⟨cs8, R8, ⟨a8, c8, he8, rfl⟩, hs8⟩ := h.at 19 (by simp) h19
                                have s8 := hs8.row_slots (by omega)
                                obtain ⟨rfl, rfl⟩ : a7 = a8 ∧ c7 = c8 := by simpa using he8
                                have sx := (h.rest).b8.row_slots (by omega)
                                simp only [fillD, h20, Option.getD_some, dstAt, List.getElem?_cons_succ, List.getElem?_cons_zero, Option.bind_some, Option.bind_none, Act.put, List.setIfInBounds_toArray, List.set_cons_zero, List.set_cons_succ] at haf
                                subst haf
                                go_wp2_with fail
                                refine (samePage_any _ s8 sx).mono ?_
                                rintro e W3 ⟨rfl, hb⟩
                                go_wp2
                                exact ⟨rfl, _, rfl, fun u hu => Option.some.inj hu, (h.same hb).know RwΦ.mono 22 (by decide) (by simp) h22 _ ⟨rfl, rfl⟩⟩
                              case f27 =>
                                intro o ho ρ W2 h hcl h27 hd2 af haf
                                obtain rfl := Option.some.inj ho
                                replace haf : af = fillD _ ρ [] _ := haf
                                obtain ⟨C, R', h1, hs, hnext⟩ := h.step RwΦ.mono 27 [] (by decide) (by decide) (by decide) h27 (by simp)
                                simp only [fillD] at haf
                                subst haf
                                go_wp2_with fail
                                refine (ownHeld_st (by omega) hs.b4.b4).mono ?_
                                rintro e W3 ⟨va8, rfl, hs'⟩
                                obtain ⟨a8, c8, rfl, _, _⟩ := (show St _ W3 (rowC va8 132 2 y.sl.length (slRow y.sl) :: _) from hs').row_read
                                go_wp2
                                exact ⟨rfl, _, rfl, fun u hu => (by cases hu), hnext _ _ W3 ⟨a8, c8, rfl, rfl⟩ hs'.b1.u5.b1.u5⟩
                              case f28 =>
                                intro o ho ρ W2 h hcl h28 hd2 af haf
                                obtain rfl := Option.some.inj ho
                                replace haf : af = fillD _ ρ [27] _ := haf
                                obtain ⟨v27, h27⟩ := Option.isSome_iff_exists.1 (hd2 27 (by show _ ∈ [27]; simp))
                                obtain ⟨cs8, R8, ⟨a8, c8, rfl, _⟩, _⟩ := h.at 27 (by simp) h27
                                simp only [fillD, h27, Option.getD_some, dstAt, List.getElem?_cons_succ, List.getElem?_cons_zero, Option.bind_some, Option.bind_none, Act.put, List.setIfInBounds_toArray, List.set_cons_zero, List.set_cons_succ] at haf
                                subst haf
                                go_wp2
                                exact ⟨rfl, _, rfl, fun u hu => Option.some.inj hu, h.know RwΦ.mono 28 (by decide) (by simp) h28 _ ⟨rfl, rfl⟩⟩
                              case f34 =>
                                intro o ho ρ W2 h hcl h34 hd2 af haf
                                obtain rfl := Option.some.inj ho
                                replace haf : af = fillD _ ρ [] _ := haf
                                obtain ⟨C, R', h1, hs, hnext⟩ := h.step RwΦ.mono 34 [] (by decide) (by decide) (by decide) h34 (by simp)
                                simp only [fillD] at haf
                                subst haf
                                go_wp2_with fail
                                refine (ownHeld_st (by omega) hs.b4.b4).mono ?_
                                rintro e W3 ⟨va8, rfl, hs'⟩
                                obtain ⟨a8, c8, rfl, _, _⟩ := (show St _ W3 (rowC va8 132 2 y.sl.length (slRow y.sl) :: _) from hs').row_read
                                go_wp2
                                exact ⟨rfl, _, rfl, fun u hu => (by cases hu), hnext _ _ W3 ⟨a8, c8, rfl, rfl⟩ hs'.b1.u5.b1.u5⟩
                              case f35 =>
                                intro o ho ρ W2 h hcl h35 hd2 af haf
                                obtain rfl := Option.some.inj ho
                                replace haf : af = fillD _ ρ [34] _ := haf
                                obtain ⟨v34, h34⟩ := Option.isSome_iff_exists.1 (hd2 34 (by show _ ∈ [34]; simp))
                                obtain ⟨cs8, R8, ⟨a8, c8, rfl, _⟩, _⟩ := h.at 34 (by simp) h34
                                simp only [fillD, h34, Option.getD_some, dstAt, List.getElem?_cons_succ, List.getElem?_cons_zero, Option.bind_some, Option.bind_none, Act.put, List.setIfInBounds_toArray, List.set_cons_zero, List.set_cons_succ] at haf
                                subst haf
                                go_wp2
                                exact ⟨rfl, _, rfl, fun u hu => Option.some.inj hu, h.know RwΦ.mono 35 (by decide) (by simp) h35 _ ⟨rfl, rfl⟩⟩
                              case f37 =>
                                intro o ho ρ W2 h hcl h37 hd2 af haf
                                obtain rfl := Option.some.inj ho
                                replace haf : af = fillD _ ρ [] _ := haf
                                obtain ⟨C, R', h1, hs, hnext⟩ := h.step RwΦ.mono 37 [] (by decide) (by decide) (by decide) h37 (by simp)
                                simp only [fillD] at haf
                                subst haf
                                go_wp2_with fail
                                refine (writeHeld_st (by omega) hs.b7.b7.b7).mono ?_
                                rintro e W3 ⟨va8, rfl, hs'⟩
                                obtain ⟨a8, c8, rfl, _, _⟩ := (show St _ W3 (rowC va8 132 2 y.sl.length (slRow y.sl) :: _) from hs').row_read
                                go_wp2
                                exact ⟨rfl, _, rfl, fun u hu => (by cases hu), hnext _ _ W3 ⟨a8, c8, rfl, rfl⟩ hs'.b1.u8.b1.u8.b1.u8⟩
                              case f38 =>
                                intro o ho ρ W2 h hcl h38 hd2 af haf
                                obtain rfl := Option.some.inj ho
                                replace haf : af = fillD _ ρ [37] _ := haf
                                obtain ⟨v37, h37⟩ := Option.isSome_iff_exists.1 (hd2 37 (by show _ ∈ [37]; simp))
                                obtain ⟨cs8, R8, ⟨a8, c8, rfl, _⟩, _⟩ := h.at 37 (by simp) h37
                                simp only [fillD, h37, Option.getD_some, dstAt, List.getElem?_cons_succ, List.getElem?_cons_zero, Option.bind_some, Option.bind_none, Act.put, List.setIfInBounds_toArray, List.set_cons_zero, List.set_cons_succ] at haf
                                subst haf
                                go_wp2
                                exact ⟨rfl, _, rfl, fun u hu => Option.some.inj hu, h.know RwΦ.mono 38 (by decide) (by simp) h38 _ ⟨rfl, rfl⟩⟩
                              case f45 =>
                                intro o ho ρ W2 h hcl h45 hd2 af haf
                                obtain rfl := Option.some.inj ho
                                replace haf : af = fillD _ ρ [] _ := haf
                                obtain ⟨C, R', h1, hs, hnext⟩ := h.step RwΦ.mono 45 [] (by decide) (by decide) (by decide) h45 (by simp)
                                simp only [fillD] at haf
                                subst haf
                                go_wp2_with fail
                                refine (Qpk.out _ _ _ hs).mono ?_
                                rintro e W3 ⟨va8, rfl, hs'⟩
                                obtain ⟨a8, c8, rfl, _, _⟩ := (show St _ W3 (rowC va8 132 2 y.sl.length (slRow y.sl) :: _) from hs').row_read
                                go_wp2
                                exact ⟨rfl, _, rfl, fun u hu => (by cases hu), hnext _ _ W3 ⟨a8, c8, rfl, rfl⟩ hs'⟩
                              case f47 =>
                                intro o ho ρ W2 h hcl h47 hd2 af haf
                                obtain rfl := Option.some.inj ho
                                replace haf : af = fillD _ ρ [45] _ := haf
                                obtain ⟨v45, h45⟩ := Option.isSome_iff_exists.1 (hd2 45 (by show _ ∈ [45]; simp))
                                obtain ⟨cs8, R8, ⟨a8, c8, rfl, rfl⟩, hs8⟩ := h.at 45 (by simp) h45
                                have s8 := hs8.row_slots (by omega)
                                have sx := (h.rest).b8.row_slots (by omega)
                                simp only [fillD, h45, Option.getD_some, dstAt, List.getElem?_cons_succ, List.getElem?_cons_zero, Option.bind_some, Option.bind_none, Act.put, List.setIfInBounds_toArray, List.set_cons_zero, List.set_cons_succ] at haf
                                subst haf
                                go_wp2_with fail
                                refine (samePage_any _ s8 sx).mono ?_
                                rintro e W3 ⟨rfl, hb⟩
                                go_wp2
                                exact ⟨rfl, _, rfl, fun u hu => Option.some.inj hu, (h.same hb).know RwΦ.mono 47 (by decide) (by simp) h47 _ ⟨rfl, rfl⟩⟩
                              -- FE>
                            case fQ =>
                              intro ρ W2 h hall
                              simp only [fillD, Option.getD_some, dstAt, List.getElem?_cons_succ, List.getElem?_cons_zero, Option.bind_some, Option.bind_none, Act.put, List.setIfInBounds_toArray, List.set_cons_zero, List.set_cons_succ]
                              go_wp2
                              go_meet
                              exact ⟨rfl, h.rest⟩
                          case rest =>
                            clear hs
                            obtain ⟨rfl, hs⟩ := hcut
                            obtain ⟨hno1, hno2⟩ : 0 ≤ d.no ∧ d.no ≤ 1000 := by have := hno.out; omega
                            have hlen := hs.mem.len
                            obtain ⟨z, hz⟩ : ∃ z, z = d.node 1 2 := ⟨_, rfl⟩
                            have q12 := fun w => refNode_any d hd.out 1 2 (by omega) (by omega) (by omega) (by omega) w
                            rw [← hz] at q12
                            have Q12 := Lib.hid q12
                            have Zc : Hid (∀ i : Nat, i < L2.length → (∀ k : Nat, (k : Int) < d.fa + 4 → (i : Int) ≠ d.node id k) → i ≠ 0 → i ≠ 4 → (i : Int) ≠ z → L2[i]? = some ⟨0, ⟨#[]⟩, 0⟩) := Lib.hid (by
                              intro i hi h1 h2 h3 h4
                              rw [getC_at hi, O2.out i (fun k hk hk2 => by
                                have := h1 k.toNat
                                rw [Int.toNat_of_nonneg hk] at this
                                exact this hk2), Hz.out i (by omega), if_neg (by rw [← hz]; exact h4), if_neg (by omega), if_neg (by omega)]
                              rfl)
                            have Qno := Lib.hid (fun (k : Int) (h1 : 0 ≤ k) (h2 : k < d.fa + 4) w => refNode_any d hd.out id k (by have := Hidb.out; omega) (by have := Hidb.out; omega) h1 h2 w)
                            have Qp0 := Lib.hid (fun (wz : World) (hz : St (Know.of w) wz [memC bm bc L2 (n4 + 3), rdC br d id va7 ⟨6, y, left2, word2, t2⟩, slC va7 y, ownC bo d id (.slice a6 y.sl.length c6) ⟨6, y, 0, w2, false⟩, rowC (.slice a6 (y).sl.length c6) 132 2 (y).sl.length (slRow (y).sl), wrC b2 id w2 y (.slice a2 y.sl.length c2) g2 cap2 ps2 ps2.length, rowC (.slice a2 (y).sl.length c2) 132 2 (y).sl.length (slRow (y).sl), blk bw2 (.cells #[.pointer (some ⟨b2, 0, none⟩)] 182), rowC (.slice sa' (y).sl.length sc') 132 2 (y).sl.length (slRow (y).sl), blk bY (.cells #[.int .i64 (y).lev, (.slice sa' y.sl.length sc'), .string (y).hi, .bool (y).la, .int .u64 (y).ri] 25), blk bl (.cells #[.int .i64 d.th, .int .i64 d.sn, .int .i64 d.no, .int .i64 d.ch, .int .i64 d.re, .int .i64 d.fa, .int .u64 d.cl] 30), blk bc0 (.cells #[.int .i64 d.th, .int .i64 d.sn, .int .i64 d.no, .int .i64 d.ch, .int .i64 d.re, .int .i64 d.fa, .int .u64 d.cl] 27)]) => peekNone_st (bm := bm) (id := 0) hd.out (by omega) (.inl (by omega)) hz)
                            have Qp1 := Lib.hid (fun (wz : World) (hz : St (Know.of w) wz [memC bm bc L2 (n4 + 3), rdC br d id va7 ⟨6, y, left2, word2, t2⟩, slC va7 y, ownC bo d id (.slice a6 y.sl.length c6) ⟨6, y, 0, w2, false⟩, rowC (.slice a6 (y).sl.length c6) 132 2 (y).sl.length (slRow (y).sl), wrC b2 id w2 y (.slice a2 y.sl.length c2) g2 cap2 ps2 ps2.length, rowC (.slice a2 (y).sl.length c2) 132 2 (y).sl.length (slRow (y).sl), blk bw2 (.cells #[.pointer (some ⟨b2, 0, none⟩)] 182), rowC (.slice sa' (y).sl.length sc') 132 2 (y).sl.length (slRow (y).sl), blk bY (.cells #[.int .i64 (y).lev, (.slice sa' y.sl.length sc'), .string (y).hi, .bool (y).la, .int .u64 (y).ri] 25), blk bl (.cells #[.int .i64 d.th, .int .i64 d.sn, .int .i64 d.no, .int .i64 d.ch, .int .i64 d.re, .int .i64 d.fa, .int .u64 d.cl] 30), blk bc0 (.cells #[.int .i64 d.th, .int .i64 d.sn, .int .i64 d.no, .int .i64 d.ch, .int .i64 d.re, .int .i64 d.fa, .int .u64 d.cl] 27)]) => peekNone_st (bm := bm) (id := d.no + 1) hd.out (by omega) (.inr (by omega)) hz)
                            have Qsm := Lib.hid same_nil
                            clear q12 hz Hz O2 P2 K2 C2 hn4u
                            have qk := kitCells_st hs
                            obtain ⟨n, hn⟩ : ∃ n, n = L2.length := ⟨_, rfl⟩
                            rw [← hn] at qk hlen
                            have Hn := Lib.hid hn
                            clear hn
                            go_wp2_with fail
                            refine (qk).mono ?_
                            clear hs qk
                            rintro e w17 ⟨g, rfl, hs⟩
                            go_wp2
                            go_loopw [22, 23, 24] (fun v22 v23 v24 wr => ∃ i : Nat, i ≤ n ∧ v22 = .int .i64 (i : Int) ∧ St (Know.of w) wr [blk g (.cells (flat L2).toArray 41), memC bm bc L2 (n4 + 3), rdC br d id va7 ⟨6, y, left2, word2, t2⟩, slC va7 y, ownC bo d id (.slice a6 y.sl.length c6) ⟨6, y, 0, w2, false⟩, rowC (.slice a6 (y).sl.length c6) 132 2 (y).sl.length (slRow (y).sl), wrC b2 id w2 y (.slice a2 y.sl.length c2) g2 cap2 ps2 ps2.length, rowC (.slice a2 (y).sl.length c2) 132 2 (y).sl.length (slRow (y).sl), blk bw2 (.cells #[.pointer (some ⟨b2, 0, none⟩)] 182), rowC (.slice sa' (y).sl.length sc') 132 2 (y).sl.length (slRow (y).sl), blk bY (.cells #[.int .i64 (y).lev, (.slice sa' y.sl.length sc'), .string (y).hi, .bool (y).la, .int .u64 (y).ri] 25), blk bl (.cells #[.int .i64 d.th, .int .i64 d.sn, .int .i64 d.no, .int .i64 d.ch, .int .i64 d.re, .int .i64 d.fa, .int .u64 d.cl] 30), blk bc0 (.cells #[.int .i64 d.th, .int .i64 d.sn, .int .i64 d.no, .int .i64 d.ch, .int .i64 d.re, .int .i64 d.fa, .int .u64 d.cl] 27)]) (fun v _ _ _ => n - (intOf v).toNat)
                            case atStart => exact ⟨0, by omega, rfl, hs⟩
                            case round =>
                              clear hs
                              obtain ⟨i, hin, rfl, hs⟩ := hrel
                              by_cases hlt : i < n
                              · go_wp2
                                go_loopw [23, 24] (fun v23 v24 wr => ∃ (k : Nat) (b : Bool), (k : Int) ≤ d.fa + 4 ∧ v23 = .bool b ∧ v24 = .int .i64 (k : Int) ∧ Hid (b = false → ∀ j : Nat, j < k → (i : Int) ≠ d.node id j) ∧ St (Know.of w) wr [blk g (.cells (flat L2).toArray 41), memC bm bc L2 (n4 + 3), rdC br d id va7 ⟨6, y, left2, word2, t2⟩, slC va7 y, ownC bo d id (.slice a6 y.sl.length c6) ⟨6, y, 0, w2, false⟩, rowC (.slice a6 (y).sl.length c6) 132 2 (y).sl.length (slRow (y).sl), wrC b2 id w2 y (.slice a2 y.sl.length c2) g2 cap2 ps2 ps2.length, rowC (.slice a2 (y).sl.length c2) 132 2 (y).sl.length (slRow (y).sl), blk bw2 (.cells #[.pointer (some ⟨b2, 0, none⟩)] 182), rowC (.slice sa' (y).sl.length sc') 132 2 (y).sl.length (slRow (y).sl), blk bY (.cells #[.int .i64 (y).lev, (.slice sa' y.sl.length sc'), .string (y).hi, .bool (y).la, .int .u64 (y).ri] 25), blk bl (.cells #[.int .i64 d.th, .int .i64 d.sn, .int .i64 d.no, .int .i64 d.ch, .int .i64 d.re, .int .i64 d.fa, .int .u64 d.cl] 30), blk bc0 (.cells #[.int .i64 d.th, .int .i64 d.sn, .int .i64 d.no, .int .i64 d.ch, .int .i64 d.re, .int .i64 d.fa, .int .u64 d.cl] 27)]) (fun _ v _ => 100 - (intOf v).toNat)
                                case atStart => exact ⟨0, false, by omega, rfl, rfl, Lib.hid (fun _ j hj => by omega), hs⟩
                                case round =>
                                  clear hs
                                  obtain ⟨k, b, hk, rfl, rfl, Hb, hs⟩ := hrel
                                  have kc := hs.b12.k0
                                  by_cases hlt2 : (k : Int) < d.fa + 4
                                  · cases b
                                    · have Q := Lib.hid (fun w => Qno.out k (by omega) hlt2 w)
                                      go_wp2_with fail
                                      refine (calls_same hs (Q.out _)).mono ?_
                                      clear hs kc Q
                                      rintro e w18 ⟨rfl, hs⟩
                                      go_wp2
                                      go_roundw
                                      case rel => exact ⟨k + 1, _, by omega, rfl, by go_num, Lib.hid (fun hb j hj => by
                                        rcases Nat.lt_succ_iff_lt_or_eq.1 hj with h | rfl
                                        · exact Hb.out (by simp) j h
                                        · exact of_decide_eq_false hb), hs⟩
                                      case measure => simp [intOf]; omega
                                    · go_wp2
                                      go_roundw
                                      case rel => exact ⟨k + 1, true, by omega, rfl, by go_num, Lib.hid (fun hb => by cases hb), hs⟩
                                      case measure => simp [intOf]; omega
                                  · go_upto_region 35 with (fail)
                                    go_cut [264] (fun v264 wx => v264 = .bool false ∧ St (Know.of w) wx [blk g (.cells (flat L2).toArray 41), memC bm bc L2 (n4 + 3), rdC br d id va7 ⟨6, y, left2, word2, t2⟩, slC va7 y, ownC bo d id (.slice a6 y.sl.length c6) ⟨6, y, 0, w2, false⟩, rowC (.slice a6 (y).sl.length c6) 132 2 (y).sl.length (slRow (y).sl), wrC b2 id w2 y (.slice a2 y.sl.length c2) g2 cap2 ps2 ps2.length, rowC (.slice a2 (y).sl.length c2) 132 2 (y).sl.length (slRow (y).sl), blk bw2 (.cells #[.pointer (some ⟨b2, 0, none⟩)] 182), rowC (.slice sa' (y).sl.length sc') 132 2 (y).sl.length (slRow (y).sl), blk bY (.cells #[.int .i64 (y).lev, (.slice sa' y.sl.length sc'), .string (y).hi, .bool (y).la, .int .u64 (y).ri] 25), blk bl (.cells #[.int .i64 d.th, .int .i64 d.sn, .int .i64 d.no, .int .i64 d.ch, .int .i64 d.re, .int .i64 d.fa, .int .u64 d.cl] 30), blk bc0 (.cells #[.int .i64 d.th, .int .i64 d.sn, .int .i64 d.no, .int .i64 d.ch, .int .i64 d.re, .int .i64 d.fa, .int .u64 d.cl] 27)])
                                    case first =>
                                      as_aux_lemma =>
                                      have kc := hs.b12.k0
                                      cases b
                                      · by_cases h0 : i = 0
                                        · subst h0
                                          go_wp2
                                          go_meet
                                          exact ⟨rfl, hs⟩
                                        by_cases h4 : i = 4
                                        · subst h4
                                          go_wp2
                                          go_meet
                                          exact ⟨rfl, hs⟩
                                        have Hne := Lib.hid (fun hz => Zc.out i (by rw [← Hn.out]; exact hlt) (fun k2 hk2 => Hb.out (by simp) k2 (by omega)) h0 h4 hz)
                                        by_cases hz : (i : Int) = z
                                        · subst hz
                                          go_wp2_with fail
                                          refine (calls_same hs (Q12.out _)).mono ?_
                                          clear hs kc
                                          rintro e w18 ⟨rfl, hs⟩
                                          go_wp2
                                          go_meet
                                          exact ⟨rfl, hs⟩
                                        · have hc := Hne.out hz
                                          go_wp2_with fail
                                          refine (calls_same hs (Q12.out _)).mono ?_
                                          clear hs kc
                                          rintro e w18 ⟨rfl, hs⟩
                                          obtain ⟨c0, c1, c2⟩ := flat_cell hs.head hc
                                          clear hc
                                          go_wp2
                                          go_meet
                                          exact ⟨rfl, hs⟩
                                      · go_wp2
                                        go_meet
                                        exact ⟨rfl, hs⟩
                                    case rest =>
                                      clear hs
                                      obtain ⟨rfl, hs⟩ := hcut
                                      go_wp2
                                      go_roundw
                                      case rel => exact ⟨i + 1, by omega, by go_num, hs⟩
                                      case measure => simp [intOf]; omega
                              · obtain rfl : i = n := by omega
                                have hs := hs.tail
                                have kl := hs.b10.k0
                                have kc := hs.b11.k0
                                go_wp2_with fail
                                refine (Qp0.out _ hs).mono ?_
                                clear hs kl kc
                                rintro e w18 ⟨rfl, hs⟩
                                go_wp2_with fail
                                refine (calls_same hs (Qsm.out _)).mono ?_
                                clear hs
                                rintro e w19 ⟨rfl, hs⟩
                                have kl := hs.b10.k0
                                have kc := hs.b11.k0
                                go_wp2_with fail
                                refine (Qp1.out _ hs).mono ?_
                                clear hs kl kc
                                rintro e w20 ⟨rfl, hs⟩
                                go_wp2_with fail
                                refine (calls_same hs (Qsm.out _)).mono ?_
                                clear hs
                                rintro e w21 ⟨rfl, hs⟩
                                go_wp2
                                go_ret
                                exact ⟨rfl, hs.below (Know.Le.refl _)⟩
                        · rw [decide_eq_false h6] at q
                          have h6' : (it (rdStep d id L2) (j + 1) rd0).pc < 6 := by omega
                          have H6 := Lib.hid h6'
                          have Q := Lib.hid q
                          clear q h6 h6' hok
                          go_wp2_with fail
                          refine (Q.out).mono ?_
                          clear Q
                          rintro e w16 ⟨va7, rfl, hs⟩
                          go_wp2
                          go_roundw
                          case rel => exact ⟨j + 1, va7, by go_num, H6.out, hs⟩
                          case measure => simp [intOf]; omega
                    · rw [decide_eq_false h6] at q
                      have H6 := Lib.hid h6
                      have Q := Lib.hid q
                      clear q h6
                      go_wp2_with fail
                      refine (Q.out).mono ?_
                      clear Q
                      rintro e w15 ⟨va6, rfl, hs⟩
                      go_wp2
                      go_roundw
                      case rel => exact ⟨j + 1, va6, by go_num, H6.out, hs⟩
                      case measure => simp [intOf]; omega
              · rw [decide_eq_false hlast] at q
                have Q := Lib.hid q
                clear q
                have hlt4 : (n1 : Int) + (j : Int) < 400 := by omega
                go_wp2_with fail
                refine (Q.out).mono ?_
                clear Q
                rintro e w7 ⟨rfl, hs⟩
                go_wp2
                go_roundw
                case rel => exact ⟨j + 1, by omega, by go_num, hs⟩
                case measure => simp [intOf]; omega
      · rw [decide_eq_false hlast] at q
        have Q := Lib.hid q
        clear q
        go_wp2_with fail
        refine (Q.out).mono ?_
        clear Q
        rintro e w6 ⟨rfl, hs⟩
        go_wp2
        go_roundw
        case rel => exact ⟨k + 1, by omega, by go_num, hs⟩
        case measure => simp [intOf]; omega
end Go.Proofs.Ytfgjanponijkhaa
