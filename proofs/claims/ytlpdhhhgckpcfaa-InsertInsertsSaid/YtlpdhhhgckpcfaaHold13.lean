
/- blinktreelaw13's hold. -/
import Derived.Test.YtlpdhhhgckpcfaaAw13
import Derived.Test.YtlpdhhhgckpcfaaAppF
import Derived.Test.YtlpdhhhgckpcfaaRefFind
import Derived.Test.YtlpdhhhgckpcfaaTreeB
import Derived.Laws.Rows
namespace Go.Proofs.Ytlpdhhhgckpcfaa
open Go.RowKit
set_option maxRecDepth 100000
/-- The struct held. -/
def xbL (c l : Cfg) (m : Value) (h : InH) (va : Value) (key : ByteArray) : List Value :=
  [.int .i64 c.th, .int .i64 c.sn, .int .i64 c.no, .int .i64 c.ch, .int .i64 c.re, .int .i64 c.fa, .int .u64 c.cl, .int .i64 l.th, .int .i64 l.sn, .int .i64 l.no, .int .i64 l.ch, .int .i64 l.re, .int .i64 l.fa, .int .u64 l.cl, m,
    .int .u64 h.id, .int .u64 h.word, .int .i64 h.pg.lev, va, .string h.pg.hi, .bool h.pg.la, .int .u64 h.pg.ri, .string key]
def cfgN (d : Cfg) (n : Int) : Cfg := ⟨d.th, d.sn, n, d.ch, d.re, d.fa, d.cl⟩
def cfg0 : Cfg := ⟨0, 0, 0, 0, 0, 0, 0⟩
def xbC (b : Nat) (c l : Cfg) (m : Value) (h : InH) (va : Value) (key : ByteArray) : Comp := blk b (.cells (xbL c l m h va key).toArray 35)
theorem kit13_ok (fa : Int) : ({ kitC 1 (4 + fa % 3) 1000 with no := 10 } : Cfg).Ok := by
  have h0 : 0 ≤ fa % 3 := by omega
  have h1 : fa % 3 ≤ 2 := by omega
  constructor <;> simp only [kitC] <;> omega
theorem hold_res (tmps : Array Value) (w : World) (b : Nat) (c l : Cfg) (m : Value) (h : InH) (va : Value) (key : ByteArray) (x : Value) (hp : tmps[12]? = some (.pointer (some ⟨b, 0, none⟩))) (hx : tmps[13]? = some x) (hk : w.heap[b]? = some (.cells (xbL c l m h va key).toArray 35)) :
    (results Try.f4 tmps).run Try.prog w = .ok (.tuple #[.agg (xbL c l m h va key).toArray, x]) w := by
  simp [results, Try.results4, hp, hx, asAddr, run_loadVar_row w b 35 35 _ (0, 0) _ hk Try.underlying35 rfl (by kernel_rfl)]
def maxK (a b : ByteArray) : ByteArray := if klt a b then b else a
theorem run_max_str (P : Program) (w : World) (ts : Array TypeId) (t : TypeId) (x y : ByteArray) : (Builtin.max_ ts t #[.string x, .string y]).run P w = .ok (.string (maxK x y)) w := by
  unfold maxK klt
  cases h : Op.bytesLess x.toList y.toList <;> simp [Builtin.max_, Builtin.max2, Op.stringOp, asBool, h]
attribute [go_sem] run_max_str
theorem St.setRow {K : Know} {w : World} {b : Nat} {old : Array Value} {T : TypeId} {F : List Comp} (h : St K w (blk b (.cells old T) :: F)) (cells : Array Value) : St K (w.setRow b cells) (blk b (.cells cells T) :: F) := by
  refine h.chg1 (c' := blk b (.cells cells T)) ⟨rfl, rfl, rfl, by rw [size_setRow]; exact Nat.le_refl _, fun k hk hn => setRow_other _ _ _ _ (fun e => hn (by subst e; exact List.mem_singleton.2 rfl))⟩ (setRow_heap _ _ _ _ _ _ h.head) rfl
theorem wpList_built {P : Program} {ops : Array Oper} {rest : List Oper} {o : Oper} {a : Act} {w : World} {Q : Exit → Act → World → Prop} (hg : o.guard = none) (t : TypeId) (parts : Array (Nat × Operand)) (ho : o.op = .build t parts) (cells : Array Value)
    (hf : P.built t (parts.map fun (i, x) => (i, a.eval x)).toList = some cells) (h : wpList P ops Q rest (a.put o.dst (.agg cells)) w) : wpList P ops Q (o :: rest) a w :=
  wpList_build hg t parts ho (by rw [hf]; rfl) (by rw [hf]; exact h)
theorem infoHeld13 : (Try.prog.info? 35).map (·.size) = some 23 := by kernel_rfl
/-- What hold gives. -/
structure HoldOk (d : Cfg) (L : List Cel) (fr : InH) (key : ByteArray) (ok : Bool) : Prop where
  no : d.no = 10
  hd : d.Ok
  hfr : fr.Ok d
  id : fr.id = 2
  asc : Asc fr.pg.sl
  k : ∀ s, s ∈ fr.pg.sl → s.k.size ≤ 1000000
  hkey : key.size ≤ 1000000
  len : (L.length : Int) = d.cells
  pg : Holds L (pgPts d 2 fr.pg)
  n4 : 3 ≤ (getC L 4).n ∧ (getC L 4).n ≤ 10
  hok : ok = !(fr.pg.sl.any fun s => s.k.toList == key.toList)
theorem asc_no {l : List Sl} {key : ByteArray} (h : Asc l) (hn : (l.any fun s => s.k.toList == key.toList) = false) : decide (loK l key < hiK l key) = false := by
  rcases loK_hiK (key := key) h with e | ⟨_, s, hs, hk⟩
  · rw [e, decide_eq_false (by omega)]
  · have : (l.any fun s => s.k.toList == key.toList) = true := List.any_eq_true.2 ⟨s, List.mem_of_getElem? hs, by rw [hk]; exact beq_self_eq_true _⟩
    rw [hn] at this; cases this
theorem hold_ok {d : Cfg} (hd : d.Ok) (hno : d.no = 10) {fan : Nat} {ks : List ByteArray} {sl : List Sl} (hk : KeysOk fan ks) (hfan : d.fa = fan) (hsl : sl = keySl 10 ks) {lv ri u8 : Int} (hlv : 0 ≤ lv ∧ lv < 3) {hi key : ByteArray} {last : Bool}
    (hhi : hi.size ≤ 70 ∧ 0 ≤ ri ∧ ri < 10 ∧ (last = true → hi = ⟨#[]⟩)) (hkey : key.size ≤ 64) (hu : 0 ≤ u8 ∧ u8 < 8) :
    HoldOk d (putC (putC (putPg d 2 ⟨lv, sl, hi, last, ri⟩ (startL d)) (d.node 2 0) ⟨ltLock 40, ⟨#[]⟩, 0⟩) 4 ⟨3 + u8, ⟨#[]⟩, 0⟩) ⟨2, ltLock 40, ⟨lv, sl, hi, last, ri⟩⟩ key (!(sl.any fun s => s.k.toList == key.toList)) := by
  have f1 := hd.fa1
  have h4 := hd.cells_bd
  have hcb := cells_big hd
  have hlen : sl.length = ks.length := by rw [hsl, keySl_length]
  have hle : (sl.length : Int) ≤ d.fa := by have := hk.len; omega
  have hmem : ∀ s, s ∈ sl → s.k ∈ ks ∧ 1 ≤ s.r ∧ s.r ≤ ((10 + ks.length : Nat) : Int) := fun s hs => keySl_mem (by rw [← hsl]; exact hs)
  have hksz := hk.len
  have hf2 := hd.fa2
  have hl0 : ((startL d).length : Int) = d.cells := by rw [(start_cells d hd).1]; omega
  refine ⟨hno, hd, ⟨⟨by show (1 : Int) ≤ 2; decide, by show (2 : Int) ≤ d.no; omega⟩, by show 0 ≤ ltLock 40 ∧ ltLock 40 < 18446744073709551616; decide, ⟨hle, ⟨by show 0 ≤ ri; omega, by show ri < _; omega⟩, fun s hs => ?_, fun s hs => ?_, ?_, hhi.2.2.2⟩, ⟨hlv.1, by show lv < _; omega⟩⟩, rfl, ?_, fun s hs => ?_, by omega, ?_, ?_, ?_, rfl⟩
  · have := hmem s hs; omega
  · have := hk.size _ (hmem s hs).1; exact Nat.le_trans this (by decide)
  · exact Nat.le_trans hhi.1 (by decide)
  · show Asc sl
    rw [hsl]; exact keySl_asc 10 hk.asc
  · have := hk.size _ (hmem s hs).1; omega
  · rw [putC_length, putC_length, putPg_length]; exact hl0
  · intro q hq
    have hq0 := putPg_holds hd (by decide) (by omega) (pg := ⟨lv, sl, hi, last, ri⟩) hl0 hle hhi.2.2.2 q hq
    obtain ⟨k, k1, k2, e⟩ := pgPts_addr hd (by decide) (by omega) hle q hq
    rw [← hq0, getC_ne (by rw [e]; exact (node_not4 hd (by decide) (by omega) k (by omega) k2).symm), getC_ne (fun e2 => ?_)]
    exact node_ne hd (id := 2) (by decide) (by omega) (by omega) k2 (by omega) (by omega) (by omega) (e.symm.trans e2)
  · have e : getC (putC (putC (putPg d 2 ⟨lv, sl, hi, last, ri⟩ (startL d)) (d.node 2 0) ⟨ltLock 40, ⟨#[]⟩, 0⟩) 4 ⟨3 + u8, ⟨#[]⟩, 0⟩) 4 = ⟨3 + u8, ⟨#[]⟩, 0⟩ := getC_eq (by decide) (by rw [putC_length, putPg_length]; omega)
    rw [e]
    exact ⟨by show (3 : Int) ≤ 3 + u8; omega, by show 3 + u8 ≤ _; omega⟩
theorem hold_cfg (fanout : Int) : ∃ d : Cfg, Hid d.Ok ∧ Hid (d.fa = 4 + fanout % 3) ∧ Hid (d.no = 10) ∧ Hid (∀ w, Calls Try.prog 25 #[.int .i64 1, .int .i64 fanout] w fun e w' => e = .returned (.agg #[.int .i64 ((cfgN d 100)).th, .int .i64 ((cfgN d 100)).sn, .int .i64 ((cfgN d 100)).no, .int .i64 ((cfgN d 100)).ch, .int .i64 ((cfgN d 100)).re, .int .i64 ((cfgN d 100)).fa, .int .u64 ((cfgN d 100)).cl]) ∧ Below w.heap.size w w') ∧
      Hid (∀ w K cs, St K w cs → Calls Try.prog 26 #[.agg #[.int .i64 d.th, .int .i64 d.sn, .int .i64 d.no, .int .i64 d.ch, .int .i64 d.re, .int .i64 d.fa, .int .u64 d.cl]] w fun e w'' => ∃ bm bc, e = .returned (.tuple #[.agg #[.int .i64 d.th, .int .i64 d.sn, .int .i64 d.no, .int .i64 d.ch, .int .i64 d.re, .int .i64 d.fa, .int .u64 d.cl], (.pointer (some ⟨bm, 0, none⟩))]) ∧ St K w'' (memC bm bc (startL d) 0 :: cs)) :=
    ⟨{ kitC 1 (4 + fanout % 3) 1000 with no := 10 }, Lib.hid (kit13_ok fanout), Lib.hid rfl, Lib.hid rfl, Lib.hid (fun w => kitConfig_any 1 fanout w), Lib.hid (fun w K cs hs => kitMemory_st (kit13_ok fanout) hs)⟩
section
variable {w0 w : World} {F : List Comp} {a : Option Addr} {len cap : Nat} {f : Nat → ByteArray} {fanout level used : Int} {last : Bool} {key : ByteArray}
set_option maxHeartbeats 8000000 in
theorem hold_st (hz : StrsIn w0 a len f) (hkey : key.size ≤ maxLen) (hs : St (Know.of w0) w F) :
    Calls Try.prog 4 #[.slice a len cap, .int .i64 fanout, .int .i64 level, .bool last, .string key, .int .i64 used] w fun e w' => ∃ (bm bc : Nat) (d : Cfg) (L : List Cel) (fr : InH) (af : Option Addr) (cf : Nat) (key' : ByteArray) (ok : Bool),
      e = .returned (.tuple #[.agg (xbL d d (.pointer (some ⟨bm, 0, none⟩)) fr (.slice af fr.pg.sl.length cf) key').toArray, .bool ok]) ∧ HoldOk d L fr key' ok ∧ St (Know.of w0) w' (memC bm bc L 0 :: slC (.slice af fr.pg.sl.length cf) fr.pg :: F) := by
  obtain ⟨d, hd, hfa, hno, QC, QM⟩ := hold_cfg fanout
  have hs := hs.made (.cells (xbL cfg0 cfg0 (.pointer none) hd0 (.slice none 0 0) ⟨#[]⟩).toArray 35)
  obtain ⟨b0, hb0⟩ : ∃ b0, b0 = w.heap.size := ⟨_, rfl⟩
  rw [← hb0] at hs
  have Hs := Lib.hid hs
  clear hs
  go_enter Try.func4, Try.ntmps4
  go_wp2_with fail
  rw [← hb0]
  clear hb0
  refine (calls_same Hs.out (QC.out _)).mono ?_
  clear Hs
  rintro e w1 ⟨rfl, hs⟩
  have hs := hs.made (.cells (xbL cfg0 cfg0 (.pointer none) hd0 (.slice none 0 0) ⟨#[]⟩).toArray 35)
  have hs2 := hs.setRow (xbL (cfgN d 100) cfg0 (.pointer none) hd0 (.slice none 0 0) ⟨#[]⟩).toArray
  go_upto_region 2 with (first | (refine wpList_built rfl 35 _ rfl (xbL (cfgN d 100) cfg0 (.pointer none) hd0 (.slice none 0 0) ⟨#[]⟩).toArray (by kernel_rfl) ?_) | (refine wpList_store_row rfl 35 _ _ rfl w1.heap.size (xbL (cfgN d 100) cfg0 (.pointer none) hd0 (.slice none 0 0) ⟨#[]⟩).toArray rfl rfl 35 _ hs.head infoHeld13 (by kernel_rfl) (by kernel_rfl) ?_))
  dsimp only [Act.put]
  obtain ⟨b1, hb1⟩ : ∃ b1, b1 = w1.heap.size := ⟨_, rfl⟩
  rw [← hb1] at hs2 ⊢
  refine wp_ck hs2 ?_
  clear hs hs2 hb1
  intro w2 hs
  have k := hs.k0
  unfold xbL at k
  have kf := hs.f0
  have hs : St (Know.of w0) _ (xbC b1 d cfg0 (.pointer none) hd0 (.slice none 0 0) ⟨#[]⟩ :: _) := (show (xbL (cfgN d 100) cfg0 (.pointer none) hd0 (.slice none 0 0) ⟨#[]⟩).set 2 (.int .i64 10) = xbL d cfg0 (.pointer none) hd0 (.slice none 0 0) ⟨#[]⟩ by rw [← hno.out]; rfl) ▸ hs.setL 2 (.int .i64 10)
  go_upto_region 3 with (fail)
  refine wp_ck hs ?_
  clear hs k kf
  intro w3 hs
  have k := hs.k0
  unfold xbL at k
  have Q := Lib.hid (QM.out _ _ _ hs)
  clear hs
  go_wp2_with fail
  refine (Q.out).mono ?_
  clear Q k
  rintro e w4 ⟨bm, bc, rfl, hs⟩
  have hs := hs.b1
  have k := hs.k0
  unfold xbL at k
  have kf := hs.f0
  have hs : St (Know.of w0) _ (xbC b1 d d (.pointer (some ⟨bm, 0, none⟩)) hd0 (.slice none 0 0) ⟨#[]⟩ :: _) := (((((((hs.setL 7 (.int .i64 d.th)).setL 8 (.int .i64 d.sn)).setL 9 (.int .i64 d.no)).setL 10 (.int .i64 d.ch)).setL 11 (.int .i64 d.re)).setL 12 (.int .i64 d.fa)).setL 13 (.int .u64 d.cl)).setL 14 (.pointer (some ⟨bm, 0, none⟩))
  go_upto_region 4 with (fail)
  refine wp_ck hs ?_
  clear hs k kf
  intro w5 hs
  have k := hs.k0
  unfold xbL at k
  obtain ⟨fan, hfan⟩ : ∃ n : Nat, d.fa = n := ⟨d.fa.toNat, by have := hd.out.fa1; omega⟩
  have hf1 := hd.out.fa1
  have hf2 := hd.out.fa2
  have q := keys_st (cap := cap) (most := fan) hz (by omega) hs
  rw [← hfan] at q
  have Q := Lib.hid q
  have Hfan := Lib.hid hfan
  clear hs q hfan hf1 hf2
  go_wp2_with fail
  refine (Q.out).mono ?_
  clear Q k
  rintro e w6 ⟨v, ks, rfl, HK, hs⟩
  obtain ⟨a5, c5, rfl, _, _⟩ := hs.row_read
  go_upto_region 7 with (fail)
  go_cut [44] (fun v44 wx => v44 = .bool (decide (ks.length = 0)) ∧ w6 = wx)
  case first =>
    as_aux_lemma =>
    by_cases hk0 : ks.length = 0
    · have h0 : ((ks.length : Int) == 0) = true := by simp [hk0]
      go_wp2
      go_meet
      exact ⟨by simp [hk0], rfl⟩
    · have h0 : ((ks.length : Int) == 0) = false := by rw [beq_eq_false_iff_ne]; omega
      go_wp2
      go_meet
      exact ⟨by simp [hk0], rfl⟩
  case rest =>
  obtain ⟨rfl, rfl⟩ := hcut
  apply_assumption
  go_cut [15] (fun v15 wx => ∃ (a5 : Option Addr) (c5 : Nat) (ks : List ByteArray), v15 = .slice a5 ks.length c5 ∧ Hid (KeysOk fan ks ∧ 1 ≤ ks.length) ∧ St (Know.of w0) wx (rowC (.slice a5 ks.length c5) 9 1 ks.length (stRow ks) :: xbC b1 d d (.pointer (some ⟨bm, 0, none⟩)) hd0 (.slice none 0 0) ⟨#[]⟩ :: memC bm bc (startL d) 0 :: blk b0 (.cells (xbL cfg0 cfg0 (.pointer none) hd0 (.slice none 0 0) ⟨#[]⟩).toArray 35) :: F))
  case first =>
    as_aux_lemma =>
    by_cases hk0 : ks.length = 0
    · rw [decide_eq_true hk0]
      have hs := (hs.made (.cells #[.string ⟨#[]⟩] 9)).row_lit (n := 1) (size := 1) (xs := stRow [⟨#[]⟩]) rfl (by decide)
      have HK2 : Hid (KeysOk fan [⟨#[]⟩] ∧ 1 ≤ [(⟨#[]⟩ : ByteArray)].length) := Lib.hid ⟨⟨by simp [AscK], by have := hd.out.fa1; have := Hfan.out; simp; omega, fun x hx => by rw [List.mem_singleton.1 hx]; exact Nat.zero_le _⟩, by simp⟩
      have Hs : Hid (St (Know.of w0) _ (rowC (.slice (some ⟨w6.heap.size, 0, none⟩) [(⟨#[]⟩ : ByteArray)].length 1) 9 1 [(⟨#[]⟩ : ByteArray)].length (stRow [⟨#[]⟩]) :: xbC b1 d d (.pointer (some ⟨bm, 0, none⟩)) hd0 (.slice none 0 0) ⟨#[]⟩ :: memC bm bc (startL d) 0 :: blk b0 (.cells (xbL cfg0 cfg0 (.pointer none) hd0 (.slice none 0 0) ⟨#[]⟩).toArray 35) :: F)) := Lib.hid (hs.re [1, 0, 2, 3, 4] rfl).tail
      clear hs
      go_wp2
      go_meet
      exact ⟨_, _, [⟨#[]⟩], rfl, HK2, Hs.out⟩
    · rw [decide_eq_false hk0]
      have HK2 : Hid (KeysOk fan ks ∧ 1 ≤ ks.length) := Lib.hid ⟨HK.out, by omega⟩
      clear hk0
      go_wp2
      go_meet
      exact ⟨_, _, ks, rfl, HK2, hs⟩
  case rest =>
  clear hs HK
  obtain ⟨a5, c5, ks, rfl, HK, hs⟩ := hcut
  apply_assumption
  have Qm := Lib.hid (fun w => mod_any level 3 (by omega) (by omega) w)
  obtain ⟨lv, hlv, hlv0, hlv3⟩ : ∃ lv, lv = level % 3 ∧ 0 ≤ lv ∧ lv < 3 := ⟨_, rfl, by omega, by omega⟩
  rw [← hlv] at Qm
  clear hlv
  go_wp2_with fail
  refine (Qm.out _).mono ?_
  clear Qm
  rintro e w7 ⟨rfl, rfl⟩
  obtain ⟨bp, hbp⟩ : ∃ bp, bp = wc.heap.size := ⟨_, rfl⟩
  have hs := hs.made (.cells #[.int .i64 ((⟨lv, [], ⟨#[]⟩, last, 0⟩ : Pg)).lev, (.slice none 0 0), .string ((⟨lv, [], ⟨#[]⟩, last, 0⟩ : Pg)).hi, .bool ((⟨lv, [], ⟨#[]⟩, last, 0⟩ : Pg)).la, .int .u64 ((⟨lv, [], ⟨#[]⟩, last, 0⟩ : Pg)).ri] 31)
  rw [← hbp] at hs
  have hn := HK.out.1.len
  have hf2 := hd.out.fa2
  have hfan := Hfan.out
  have Hs : Hid (St (Know.of w0) _ (blk bp (.cells #[.int .i64 ((⟨lv, [], ⟨#[]⟩, last, 0⟩ : Pg)).lev, (.slice none 0 0), .string ((⟨lv, [], ⟨#[]⟩, last, 0⟩ : Pg)).hi, .bool ((⟨lv, [], ⟨#[]⟩, last, 0⟩ : Pg)).la, .int .u64 ((⟨lv, [], ⟨#[]⟩, last, 0⟩ : Pg)).ri] 31) :: rowC (.slice none 0 0) 70 2 0 [] :: rowC (.slice a5 ks.length c5) 9 1 ks.length (stRow ks) :: xbC b1 d d (.pointer (some ⟨bm, 0, none⟩)) hd0 (.slice none 0 0) ⟨#[]⟩ :: memC bm bc (startL d) 0 :: blk b0 (.cells (xbL cfg0 cfg0 (.pointer none) hd0 (.slice none 0 0) ⟨#[]⟩).toArray 35) :: F)) := Lib.hid (hs.row_nil (T := 70) (size := 2)).b1
  clear hs
  obtain ⟨n, hnn⟩ : ∃ n, n = ks.length := ⟨_, rfl⟩
  rw [← hnn] at hn ⊢
  have Hnn := Lib.hid hnn
  have hn32 : n ≤ 32 := by omega
  clear hnn hfan
  go_upto_region 10 with (fail)
  rw [← hbp]
  clear hbp
  go_wp2
  go_loopw [17] (fun v17 wr => ∃ (i : Nat) (ao : Option Addr) (co : Nat), v17 = .int .i64 i ∧ i ≤ n ∧ St (Know.of w0) wr (blk bp (.cells #[.int .i64 ((⟨lv, [], ⟨#[]⟩, last, 0⟩ : Pg)).lev, (.slice ao i co), .string ((⟨lv, [], ⟨#[]⟩, last, 0⟩ : Pg)).hi, .bool ((⟨lv, [], ⟨#[]⟩, last, 0⟩ : Pg)).la, .int .u64 ((⟨lv, [], ⟨#[]⟩, last, 0⟩ : Pg)).ri] 31) :: rowC (.slice ao i co) 70 2 i (slRow (keySl 10 (ks.take i))) :: rowC (.slice a5 n c5) 9 1 n (stRow ks) :: xbC b1 d d (.pointer (some ⟨bm, 0, none⟩)) hd0 (.slice none 0 0) ⟨#[]⟩ :: memC bm bc (startL d) 0 :: blk b0 (.cells (xbL cfg0 cfg0 (.pointer none) hd0 (.slice none 0 0) ⟨#[]⟩).toArray 35) :: F)) (fun v _ => n - (intOf v).toNat)
  case atStart => exact ⟨0, none, 0, rfl, by omega, by rw [Hnn.out]; exact Hs.out⟩
  case round =>
    clear Hs
    obtain ⟨i, ao, co, rfl, hi, hs⟩ := hrel
    by_cases hin : i < n
    · obtain ⟨ki, hki⟩ : ∃ ki, ks[i]? = some ki := ⟨_, List.getElem?_eq_getElem (by have := Hnn.out; omega)⟩
      have hrow : (stRow ks)[i]? = some (.string ki) := by simp [stRow, hki]
      obtain ⟨g5, rfl, c0⟩ := (show St (Know.of w0) wr (rowC (.slice a5 n c5) 9 1 n (stRow ks) :: _) from hs.b2).row_at hrow
      have hw1 : wrap64 ((i : Int) + 11) = (i : Int) + 11 := wrap64_idn (by omega) (by omega)
      have hw2 : IntKind.u64.wrap ((i : Int) + 11) = (i : Int) + 11 := by rw [IntKind.wrap_u64]; omega
      have Htk : Hid (slRow (keySl 10 (ks.take (i + 1))) = slRow (keySl 10 (ks.take i)) ++ [.string ki, .int .u64 ((i : Int) + 11)]) := Lib.hid (by
        rw [List.take_add_one, hki]
        show slRow (keySl 10 (ks.take i ++ [ki])) = _
        rw [keySl_push]
        unfold slRow
        rw [List.flatMap_append]
        congr 1
        show [Value.string ki, .int .u64 _] = _
        rw [List.length_take, Nat.min_eq_left (by have := Hnn.out; omega)]
        congr 3
        show ((10 + i + 1 : Nat) : Int) = (i : Int) + 11
        omega)
      have Hrow := Lib.hid hrow
      have Hs := Lib.hid hs.b1
      clear hs c0 hki hrow
      go_upto_region 13 with (fail)
      refine region_effects [false, true, false, false, false, false, false, false, false, false, true, true, false, true] [1, 10, 11, 13] (fun | 11 => [1, 10] | 13 => [11] | _ => [])
        (ApR (Know.of w0) (rowC (.slice (some ⟨g5, 0, none⟩) n c5) 9 1 n (stRow ks) :: xbC b1 d d (.pointer (some ⟨bm, 0, none⟩)) hd0 (.slice none 0 0) ⟨#[]⟩ :: memC bm bc (startL d) 0 :: blk b0 (.cells (xbL cfg0 cfg0 (.pointer none) hd0 (.slice none 0 0) ⟨#[]⟩).toArray 35) :: F) bp (fun v => [.int .i64 lv, v, .string ⟨#[]⟩, .bool last, .int .u64 0]) 31 70 (.slice ao i co) 2 i (slRow (keySl 10 (ks.take i))) [.string ki, .int .u64 ((i : Int) + 11)] 1 10 11 13)
        (fun W => St (Know.of w0) W (rowC (.slice (some ⟨g5, 0, none⟩) n c5) 9 1 n (stRow ks) :: xbC b1 d d (.pointer (some ⟨bm, 0, none⟩)) hd0 (.slice none 0 0) ⟨#[]⟩ :: memC bm bc (startL d) 0 :: blk b0 (.cells (xbL cfg0 cfg0 (.pointer none) hd0 (.slice none 0 0) ⟨#[]⟩).toArray 35) :: F)) ?aS (by kernel_rfl) ?hB ?H ?haS ?h0 ?hI ?hR ?hE ?hQ
      case hB => as_aux_lemma => kernel_rfl
      case H =>
        intro W2 hs
        have c0 := hs.row_cell Hrow.out
        clear hs
        simp only [withM]
        repeat (go_big_quiet_step (fail))
        refine wpQuiet_nil ?_
        rfl
      case haS => rfl
      case h0 => exact ApR.start Hs.out
      case hI => exact fun ρ W2 h => h.rest
      case hR => exact fun ρ W2 W3 h hb => h.same hb
      case hE =>
        clear hw1 hw2
        obtain ⟨iv, hiv0, hiv1, hiv2, hiv3⟩ := info_parts infoSlot
        have Hi0 := Lib.hid hiv0
        have Hi1 := Lib.hid hiv1
        have Hi2 := Lib.hid hiv2
        have Hi3 := Lib.hid hiv3
        clear hiv0 hiv1 hiv2 hiv3
        refine ⟨?e1, ?e10, ?e11, ?e13, trivial⟩
        case e1 =>
          intro o ho ρ W2 h hcl h1 hd2 af haf
          obtain rfl := Option.some.inj ho
          replace haf : af = fillD _ ρ [] _ := haf
          have h11 : ρ 11 = none := hcl.none (by simp) (show 1 ∈ [1, 10] by simp) h1
          have h13 : ρ 13 = none := hcl.none (by simp) (show 11 ∈ [11] by simp) h11
          obtain ⟨⟨R', hs⟩, hnext⟩ := h.load (by omega) (by omega) (by omega) h13
          simp only [fillD] at haf
          subst haf
          have k := hs.k0
          have Hn := Lib.hid hnext
          clear hnext hs h h1 h11 h13 hcl hd2
          go_wp2
          exact ⟨rfl, _, rfl, Hn.out⟩
        case e10 =>
          intro o ho ρ W2 h hcl h10 hd2 af haf
          obtain rfl := Option.some.inj ho
          replace haf : af = fillD _ ρ [] _ := haf
          have Hn := Lib.hid (h.made (by omega) (by omega) (by omega) h10)
          simp only [fillD] at haf
          subst haf
          clear h h10 hcl hd2
          go_wp2
          exact ⟨rfl, _, rfl, Hn.out⟩
        case e11 =>
          intro o ho ρ W2 h hcl h11 hd2 af haf
          obtain rfl := Option.some.inj ho
          replace haf : af = fillD _ ρ [1, 10] _ := haf
          obtain ⟨v1, h1⟩ := Option.isSome_iff_exists.1 (hd2 1 (by show _ ∈ [1, 10]; simp))
          obtain ⟨v10, h10⟩ := Option.isSome_iff_exists.1 (hd2 10 (by show _ ∈ [1, 10]; simp))
          have h13 : ρ 13 = none := hcl.none (by simp) (show 11 ∈ [11] by simp) h11
          obtain rfl : v1 = .slice ao i co := h.val h1
          obtain ⟨bl, R', rfl, hs, hnext⟩ := h.app (by omega) (by omega) (by omega) h10 h11 h13
          simp only [fillD, h1, h10, Option.getD_some, dstAt, List.getElem?_cons_succ, List.getElem?_cons_zero, Option.bind_some, Option.bind_none, Act.put, List.setIfInBounds_toArray, List.set_cons_zero, List.set_cons_succ] at haf
          subst haf
          refine append_row_st _ _ 29 70 _ i 1 1 2 24 _ [.string ki, .int .u64 ((i : Int) + 11)] (.agg #[.string ⟨#[]⟩, .int .u64 0]) iv (some ⟨bl, 0, none⟩) hs rfl rfl Try.underlying29 Hi0.out Hi1.out Hi2.out Hi3.out rfl (by decide) rfl rfl rfl (fun e => by cases e) (lit_cells hs.k1) (fun u hu => by simp at hu; rcases hu with rfl | rfl <;> rfl) (by omega) (by decide) ?_
          intro v' w' hs'
          exact ⟨rfl, _, rfl, hnext v' w' hs'⟩
        case e13 =>
          intro o ho ρ W2 h hcl h13 hd2 af haf
          obtain rfl := Option.some.inj ho
          replace haf : af = fillD _ ρ [11] _ := haf
          obtain ⟨v11, h11⟩ := Option.isSome_iff_exists.1 (hd2 11 (by show _ ∈ [11]; simp))
          obtain ⟨R', hs, ⟨a1, c1, rfl⟩, hnext⟩ := h.store (by omega) (by omega) (by omega) h11 h13
          simp only [fillD, h11, Option.getD_some, dstAt, List.getElem?_cons_succ, List.getElem?_cons_zero, Option.bind_some, Option.bind_none, Act.put, List.setIfInBounds_toArray, List.set_cons_zero, List.set_cons_succ] at haf
          subst haf
          have k0 := hs.k0
          have f0 := hs.f0
          have Hs3 := Lib.hid (hs.setL 1 (.slice a1 (i + 1) c1))
          have Hn := Lib.hid hnext
          clear hs hnext hcl hd2 h h11 h13
          go_wp2
          exact ⟨rfl, undef, rfl, Hn.out _ Hs3.out⟩
      case hQ =>
        intro ρ W2 h hall
        obtain ⟨a1, c1, h1, ⟨v10, h10⟩, h11, ⟨v13, h13⟩, hs⟩ := h.last hall
        simp only [fillD, h1, h10, h11, h13, Option.getD_some, dstAt, List.getElem?_cons_succ, List.getElem?_cons_zero, Option.bind_some, Option.bind_none, Act.put, List.setIfInBounds_toArray, List.set_cons_zero, List.set_cons_succ]
        clear h hall h1 h10 h11 h13 hw1 hw2
        rw [← Htk.out] at hs
        have Hs2 := Lib.hid hs.b1
        clear hs
        go_wp2
        go_roundw
        case rel => exact ⟨i + 1, a1, c1, by go_num, by omega, Hs2.out⟩
        case measure => simp [intOf]; omega
    · obtain rfl : n = i := by omega
      clear hi
      obtain ⟨sl, hsl⟩ : ∃ sl, sl = keySl 10 ks := ⟨_, rfl⟩
      have hsln : n = sl.length := by rw [hsl, keySl_length]; exact Hnn.out
      have htk : ks.take n = ks := by rw [Hnn.out]; exact List.take_length
      rw [htk, ← hsl] at hs
      have Hsl := Lib.hid hsl
      have Hsln := Lib.hid hsln
      clear hsl hsln htk
      obtain ⟨k0, hk0⟩ : ∃ k0, ks[0]? = some k0 := ⟨_, List.getElem?_eq_getElem (by have := HK.out.2; omega)⟩
      have hn1 : 1 ≤ n := by have := HK.out.2; have := Hnn.out; omega
      have hrow : (stRow ks)[0]? = some (.string k0) := by simp [stRow, hk0]
      obtain ⟨g5, rfl, _⟩ := (show St (Know.of w0) wr (rowC (.slice a5 n c5) 9 1 n (stRow ks) :: _) from hs.b2).row_at hrow
      have Hrow := Lib.hid hrow
      have Hk0 : Hid (k0.size ≤ 32) := Lib.hid (HK.out.1.size k0 (List.mem_of_getElem? hk0))
      clear hrow hk0
      go_upto_region 14 with (fail)
      go_cut [73] (fun v73 wx => ∃ key1 : ByteArray, Hid (key1.size ≤ 32) ∧ St (Know.of w0) wx (blk bp (.cells #[.int .i64 ((⟨lv, [], ⟨#[]⟩, last, 0⟩ : Pg)).lev, (.slice ao n co), .string ((⟨lv, [], ⟨#[]⟩, last, 0⟩ : Pg)).hi, .bool ((⟨lv, [], ⟨#[]⟩, last, 0⟩ : Pg)).la, .int .u64 ((⟨lv, [], ⟨#[]⟩, last, 0⟩ : Pg)).ri] 31) :: rowC (.slice ao n co) 70 2 n (slRow sl) :: rowC (.slice (some ⟨g5, 0, none⟩) n c5) 9 1 n (stRow ks) :: xbC b1 d d (.pointer (some ⟨bm, 0, none⟩)) hd0 (.slice none 0 0) key1 :: memC bm bc (startL d) 0 :: blk b0 (.cells (xbL cfg0 cfg0 (.pointer none) hd0 (.slice none 0 0) ⟨#[]⟩).toArray 35) :: F))
      case first =>
        as_aux_lemma =>
        have hs := hs.b3
        have kf := hs.f0
        have kx := hs.k0
        unfold xbL at kx
        by_cases hkz : key.size ≤ 32
        · have hs := hs.setL 22 (.string key)
          have Hkz := Lib.hid hkz
          go_wp2
          go_meet
          exact ⟨key, Hkz, hs.u3⟩
        · have hs := hs.setL 22 (.string (key.extract 0 32))
          have Hkz : Hid ((key.extract 0 32).size ≤ 32) := Lib.hid (by rw [ByteArray.size_extract]; omega)
          go_wp2
          go_meet
          exact ⟨_, Hkz, hs.u3⟩
      case rest =>
      clear hs
      obtain ⟨key1, Hk1, hs⟩ := hcut
      apply_assumption
      go_upto_region 15 with (fail)
      go_cut [85] (fun v85 wx => ∃ c2 : Bool, v85 = .bool c2 ∧ St (Know.of w0) wx (blk bp (.cells #[.int .i64 ((⟨lv, [], ⟨#[]⟩, last, 0⟩ : Pg)).lev, (.slice ao n co), .string ((⟨lv, [], ⟨#[]⟩, last, 0⟩ : Pg)).hi, .bool ((⟨lv, [], ⟨#[]⟩, last, 0⟩ : Pg)).la, .int .u64 ((⟨lv, [], ⟨#[]⟩, last, 0⟩ : Pg)).ri] 31) :: rowC (.slice ao n co) 70 2 n (slRow sl) :: rowC (.slice (some ⟨g5, 0, none⟩) n c5) 9 1 n (stRow ks) :: xbC b1 d d (.pointer (some ⟨bm, 0, none⟩)) hd0 (.slice none 0 0) key1 :: memC bm bc (startL d) 0 :: blk b0 (.cells (xbL cfg0 cfg0 (.pointer none) hd0 (.slice none 0 0) ⟨#[]⟩).toArray 35) :: F))
      case first =>
        as_aux_lemma =>
        have kp := hs.k0
        have kx := hs.b3.k0
        unfold xbL at kx
        have c0 := hs.b2.row_cell Hrow.out
        by_cases hlv : 0 < lv
        · refine region_pure (by kernel_rfl) (by as_aux_lemma => kernel_rfl) ?_
          repeat (go_big_quiet_step (fail))
          refine wpQuiet_nil ?_
          intro w2 hb2
          have hs := hs.same hb2
          clear kp kx c0 hb2
          go_wp2
          go_meet
          exact ⟨_, rfl, hs⟩
        · refine region_pure (by kernel_rfl) (by as_aux_lemma => kernel_rfl) ?_
          repeat (go_big_quiet_step (fail))
          refine wpQuiet_nil ?_
          intro w2 hb2
          have hs := hs.same hb2
          clear kp kx c0 hb2
          go_wp2
          go_meet
          exact ⟨_, rfl, hs⟩
      case rest =>
      clear hs
      obtain ⟨c2, rfl, hs⟩ := hcut
      apply_assumption
      go_cut [91] (fun v91 wx => ∃ key2 : ByteArray, Hid (key2.size ≤ 64) ∧ St (Know.of w0) wx (blk bp (.cells #[.int .i64 ((⟨lv, [], ⟨#[]⟩, last, 0⟩ : Pg)).lev, (.slice ao n co), .string ((⟨lv, [], ⟨#[]⟩, last, 0⟩ : Pg)).hi, .bool ((⟨lv, [], ⟨#[]⟩, last, 0⟩ : Pg)).la, .int .u64 ((⟨lv, [], ⟨#[]⟩, last, 0⟩ : Pg)).ri] 31) :: rowC (.slice ao n co) 70 2 n (slRow sl) :: rowC (.slice (some ⟨g5, 0, none⟩) n c5) 9 1 n (stRow ks) :: xbC b1 d d (.pointer (some ⟨bm, 0, none⟩)) hd0 (.slice none 0 0) key2 :: memC bm bc (startL d) 0 :: blk b0 (.cells (xbL cfg0 cfg0 (.pointer none) hd0 (.slice none 0 0) ⟨#[]⟩).toArray 35) :: F))
      case first =>
        as_aux_lemma =>
        cases c2 with
        | false =>
          go_wp2
          go_meet
          exact ⟨key1, Lib.hid (by have := Hk1.out; omega), hs⟩
        | true =>
          have hs := hs.b3
          have kx := hs.k0
          unfold xbL at kx
          have kf := hs.f0
          have c0 := hs.b3.row_cell Hrow.out
          have Hsz : Hid ((k0 ++ key1).size ≤ 64) := Lib.hid (by rw [ByteArray.size_append]; have := Hk1.out; have := Hk0.out; omega)
          have hsum : ¬ (k0.size + key1.size > 9223372036854775807) := by have := Hk1.out; have := Hk0.out; omega
          go_upto_region 16 with (fail)
          refine region_tail 7 (by kernel_rfl) (by as_aux_lemma => kernel_rfl) ?_
          simp only [List.take_succ_cons, List.take_zero, List.drop_succ_cons, List.drop_zero]
          repeat (go_big_quiet_step (fail))
          refine wpQuiet_nil ?_
          intro w3 hb3
          have hs := hs.same hb3
          clear kx kf c0 hb3
          have kx := hs.k0
          unfold xbL at kx
          have kf := hs.f0
          have hs := hs.setL 22 (.string (k0 ++ key1))
          go_wp2
          go_meet
          exact ⟨_, Hsz, hs.u3⟩
      case rest =>
      clear hs Hk1
      obtain ⟨key2, Hk2, hs⟩ := hcut
      apply_assumption
      go_upto_region 17 with (fail)
      go_cut [94] (fun v94 wx => v94 = .bool (!last) ∧ St (Know.of w0) wx (blk bp (.cells #[.int .i64 ((⟨lv, [], ⟨#[]⟩, last, 0⟩ : Pg)).lev, (.slice ao n co), .string ((⟨lv, [], ⟨#[]⟩, last, 0⟩ : Pg)).hi, .bool ((⟨lv, [], ⟨#[]⟩, last, 0⟩ : Pg)).la, .int .u64 ((⟨lv, [], ⟨#[]⟩, last, 0⟩ : Pg)).ri] 31) :: rowC (.slice ao n co) 70 2 n (slRow sl) :: rowC (.slice (some ⟨g5, 0, none⟩) n c5) 9 1 n (stRow ks) :: xbC b1 d d (.pointer (some ⟨bm, 0, none⟩)) hd0 (.slice none 0 0) key2 :: memC bm bc (startL d) 0 :: blk b0 (.cells (xbL cfg0 cfg0 (.pointer none) hd0 (.slice none 0 0) ⟨#[]⟩).toArray 35) :: F))
      case first =>
        as_aux_lemma =>
        go_wp2
        go_meet
        exact ⟨rfl, hs⟩
      case rest =>
      clear hs
      obtain ⟨rfl, hs⟩ := hcut
      apply_assumption
      go_cut [95] (fun v95 wx => ∃ (hi : ByteArray) (ri : Int), Hid (hi.size ≤ 70 ∧ 0 ≤ ri ∧ ri < 10 ∧ (last = true → hi = ⟨#[]⟩)) ∧ St (Know.of w0) wx (blk bp (.cells #[.int .i64 ((⟨lv, [], hi, last, ri⟩ : Pg)).lev, (.slice ao n co), .string ((⟨lv, [], hi, last, ri⟩ : Pg)).hi, .bool ((⟨lv, [], hi, last, ri⟩ : Pg)).la, .int .u64 ((⟨lv, [], hi, last, ri⟩ : Pg)).ri] 31) :: rowC (.slice ao n co) 70 2 n (slRow sl) :: rowC (.slice (some ⟨g5, 0, none⟩) n c5) 9 1 n (stRow ks) :: xbC b1 d d (.pointer (some ⟨bm, 0, none⟩)) hd0 (.slice none 0 0) key2 :: memC bm bc (startL d) 0 :: blk b0 (.cells (xbL cfg0 cfg0 (.pointer none) hd0 (.slice none 0 0) ⟨#[]⟩).toArray 35) :: F))
      case first =>
        as_aux_lemma =>
        cases last with
        | true =>
          go_wp2
          go_meet
          exact ⟨⟨#[]⟩, 0, Lib.hid ⟨by decide, by omega, by omega, fun _ => rfl⟩, hs⟩
        | false =>
          have kp := hs.k0
          have fp := hs.f0
          have hs := hs.setL 4 (.int .u64 3)
          go_upto_region 19 with (fail)
          refine wp_ck hs ?_
          clear hs kp fp
          intro W hs
          obtain ⟨kl, hkl⟩ : ∃ kl, ks[n - 1]? = some kl := ⟨_, List.getElem?_eq_getElem (by have := Hnn.out; omega)⟩
          have Hkl : Hid (kl.size ≤ 32) := Lib.hid (HK.out.1.size kl (List.mem_of_getElem? hkl))
          have c1 := hs.b2.row_cell (show (stRow ks)[n - 1]? = some (.string kl) by simp [stRow, hkl])
          have kx := hs.b3.k0
          unfold xbL at kx
          have Hmx : Hid ((maxK kl key2).size ≤ 64) := Lib.hid (by have := Hkl.out; have := Hk2.out; unfold maxK; split <;> omega)
          have hsum : ¬ ((maxK kl key2).size + 1 > 9223372036854775807) := by have := Hmx.out; omega
          have kp := hs.k0
          have fp := hs.f0
          clear hkl
          have Hs : Hid (∀ w2, Below W.heap.size W w2 → (∀ k, w2.cell? ⟨bp, k, none⟩ = #[.int .i64 ((⟨lv, [], ⟨#[]⟩, false, 3⟩ : Pg)).lev, (.slice ao n co), .string ((⟨lv, [], ⟨#[]⟩, false, 3⟩ : Pg)).hi, .bool ((⟨lv, [], ⟨#[]⟩, false, 3⟩ : Pg)).la, .int .u64 ((⟨lv, [], ⟨#[]⟩, false, 3⟩ : Pg)).ri][k]?) ∧ St (Know.of w0) (w2.setCell ⟨bp, 2, none⟩ (.string (maxK kl key2 ++ ⟨#[255]⟩))) (blk bp (.cells #[.int .i64 ((⟨lv, [], maxK kl key2 ++ ⟨#[255]⟩, false, 3⟩ : Pg)).lev, (.slice ao n co), .string ((⟨lv, [], maxK kl key2 ++ ⟨#[255]⟩, false, 3⟩ : Pg)).hi, .bool ((⟨lv, [], maxK kl key2 ++ ⟨#[255]⟩, false, 3⟩ : Pg)).la, .int .u64 ((⟨lv, [], maxK kl key2 ++ ⟨#[255]⟩, false, 3⟩ : Pg)).ri] 31) :: rowC (.slice ao n co) 70 2 n (slRow sl) :: rowC (.slice (some ⟨g5, 0, none⟩) n c5) 9 1 n (stRow ks) :: xbC b1 d d (.pointer (some ⟨bm, 0, none⟩)) hd0 (.slice none 0 0) key2 :: memC bm bc (startL d) 0 :: blk b0 (.cells (xbL cfg0 cfg0 (.pointer none) hd0 (.slice none 0 0) ⟨#[]⟩).toArray 35) :: F) ∧ ∀ k, w2.frozen? ⟨bp, k, none⟩ = false) := Lib.hid (fun w2 hb => ⟨(hs.same hb).k0, ((hs.same hb).setL 2 (.string (maxK kl key2 ++ ⟨#[255]⟩))), (hs.same hb).f0⟩)
          clear hs
          refine region_tail 11 (by kernel_rfl) (by as_aux_lemma => kernel_rfl) ?_
          simp only [List.take_succ_cons, List.take_zero, List.drop_succ_cons, List.drop_zero]
          repeat (go_big_quiet_step (fail))
          refine wpQuiet_nil ?_
          intro w3 hb3
          clear kp fp
          obtain ⟨kp, hs, fp⟩ := Hs.out w3 hb3
          clear kx c1 hb3 Hs
          go_wp2
          go_meet
          exact ⟨_, 3, Lib.hid ⟨by rw [ByteArray.size_append]; have := Hmx.out; show _ + 1 ≤ _; omega, by omega, by omega, fun h => by cases h⟩, hs⟩
      case rest =>
      clear hs
      obtain ⟨hi, ri, Hhi, hs⟩ := hcut
      apply_assumption
      go_upto_region 20 with (fail)
      obtain ⟨u8, hu8, hu80, hu88⟩ : ∃ u8, u8 = used % 8 ∧ 0 ≤ u8 ∧ u8 < 8 := ⟨_, rfl, by omega, by omega⟩
      have Qm := Lib.hid (fun w => mod_any used 8 (by omega) (by omega) w)
      rw [← hu8] at Qm
      have Hok := Lib.hid (hold_ok (hi := hi) (key := key2) (last := last) (ri := ri) hd.out hno.out HK.out.1 Hfan.out Hsl.out ⟨hlv0, hlv3⟩ Hhi.out Hk2.out ⟨hu80, hu88⟩)
      have hw3 : IntKind.u64.wrap u8 = u8 := by rw [IntKind.wrap_u64]; omega
      have hw4 : IntKind.u64.wrap (3 + u8) = 3 + u8 := by rw [IntKind.wrap_u64]; omega
      have hle : (sl.length : Int) ≤ d.fa := by have := HK.out.1.len; have := Hfan.out; have := Hnn.out; have := Hsln.out; omega
      clear hu8
      obtain rfl := Hsln.out
      have hs := hs.re [4, 1, 0, 2, 3, 5] rfl
      have kp := hs.k2
      have kx := hs.tail.tail.k2
      unfold xbL at kx
      have q := kitPut_st (pg := ⟨lv, sl, hi, last, ri⟩) (id := 2) hd.out (by omega) ⟨hlv0, by show lv < _; omega⟩ hle hs
      have Q := Lib.hid q
      clear q hs hle
      go_wp2_with fail
      refine (Q.out).mono ?_
      clear Q kp kx
      rintro e w8 ⟨rfl, hs⟩
      obtain ⟨L1, hL1⟩ : ∃ L1, L1 = putPg d 2 ⟨lv, sl, hi, last, ri⟩ (startL d) := ⟨_, rfl⟩
      rw [← hL1] at hs Hok
      clear hL1
      have hs : St (Know.of w0) w8 (memC bm bc L1 0 :: rowC (.slice ao sl.length co) 70 2 sl.length (slRow sl) :: blk bp (.cells #[.int .i64 ((⟨lv, [], hi, last, ri⟩ : Pg)).lev, (.slice ao sl.length co), .string ((⟨lv, [], hi, last, ri⟩ : Pg)).hi, .bool ((⟨lv, [], hi, last, ri⟩ : Pg)).la, .int .u64 ((⟨lv, [], hi, last, ri⟩ : Pg)).ri] 31) :: rowC (.slice (some ⟨g5, 0, none⟩) sl.length c5) 9 1 sl.length (stRow ks) :: xbC b1 d d (.pointer (some ⟨bm, 0, none⟩)) hd0 (.slice none 0 0) key2 :: blk b0 (.cells (xbL cfg0 cfg0 (.pointer none) hd0 (.slice none 0 0) ⟨#[]⟩).toArray 35) :: F) := hs
      go_upto_region 21 with (fail)
      have Ql := Lib.hid (fun w => ltLock_any 40 (by decide) (by decide) w)
      have Hs : Hid (∀ w2, Below w8.heap.size w8 w2 → (∀ k, w2.cell? ⟨b1, k, none⟩ = (xbL d d (.pointer (some ⟨bm, 0, none⟩)) hd0 (.slice none 0 0) key2).toArray[k]?) ∧ (∀ k, w2.frozen? ⟨b1, k, none⟩ = false) ∧ St (Know.of w0) (((((((w2.setCell ⟨b1, 15, none⟩ (.int .u64 2)).setCell ⟨b1, 16, none⟩ (.int .u64 (ltLock 40))).setCell ⟨b1, 17, none⟩ (.int .i64 lv)).setCell ⟨b1, 18, none⟩ (.slice ao sl.length co)).setCell ⟨b1, 19, none⟩ (.string hi)).setCell ⟨b1, 20, none⟩ (.bool last)).setCell ⟨b1, 21, none⟩ (.int .u64 ri)) (xbC b1 d d (.pointer (some ⟨bm, 0, none⟩)) ⟨2, ltLock 40, ⟨lv, sl, hi, last, ri⟩⟩ (.slice ao sl.length co) key2 :: memC bm bc L1 0 :: rowC (.slice ao sl.length co) 70 2 sl.length (slRow sl) :: blk bp (.cells #[.int .i64 ((⟨lv, [], hi, last, ri⟩ : Pg)).lev, (.slice ao sl.length co), .string ((⟨lv, [], hi, last, ri⟩ : Pg)).hi, .bool ((⟨lv, [], hi, last, ri⟩ : Pg)).la, .int .u64 ((⟨lv, [], hi, last, ri⟩ : Pg)).ri] 31) :: rowC (.slice (some ⟨g5, 0, none⟩) sl.length c5) 9 1 sl.length (stRow ks) :: blk b0 (.cells (xbL cfg0 cfg0 (.pointer none) hd0 (.slice none 0 0) ⟨#[]⟩).toArray 35) :: F)) := Lib.hid (fun w2 hb => by
        have hs := (hs.same hb).b4
        exact ⟨hs.k0, hs.f0, ((((((hs.setL 15 (.int .u64 2)).setL 16 (.int .u64 (ltLock 40))).setL 17 (.int .i64 lv)).setL 18 (.slice ao sl.length co)).setL 19 (.string hi)).setL 20 (.bool last)).setL 21 (.int .u64 ri)⟩)
      have kp := hs.k2
      clear hs
      refine region_tail 4 (by kernel_rfl) (by as_aux_lemma => kernel_rfl) ?_
      simp only [List.take_succ_cons, List.take_zero, List.drop_succ_cons, List.drop_zero]
      repeat (go_big_quiet_step ((go_at_call 18; exact pure_of_same (Ql.out _))))
      refine wpQuiet_nil ?_
      intro w9 hb9
      obtain ⟨kx, fx, hs⟩ := Hs.out w9 hb9
      unfold xbL at kx
      clear Hs Ql kp hb9
      go_upto_region 22 with (fail)
      refine wp_ck hs ?_
      clear kx fx hs
      intro w10 hs
      have kx := hs.k0
      unfold xbL at kx
      have f1 := hd.out.fa1
      refine region_tail 9 (by kernel_rfl) (by as_aux_lemma => kernel_rfl) ?_
      simp only [List.take_succ_cons, List.take_zero, List.drop_succ_cons, List.drop_zero]
      repeat (go_big_quiet_step ((go_at_call 24; exact pure_of (refNode_any d hd.out 2 0 (by decide) (by decide) (by decide) (by omega) _))))
      refine wpQuiet_nil ?_
      intro w11 hb11
      have hs := (hs.same hb11).b1
      clear kx hb11 f1
      go_wp2_with fail
      refine (poke_st (i := d.node 2 0) (c := ⟨ltLock 40, ⟨#[]⟩, 0⟩) hs).mono ?_
      clear hs
      rintro e w12 ⟨rfl, hs⟩
      have kx := hs.b1.k0
      unfold xbL at kx
      go_upto_region 23 with (fail)
      refine region_tail 7 (by kernel_rfl) (by as_aux_lemma => kernel_rfl) ?_
      simp only [List.take_succ_cons, List.take_zero, List.drop_succ_cons, List.drop_zero]
      repeat (go_big_quiet_step ((go_at_call 28; exact pure_of_same (Qm.out _))))
      refine wpQuiet_nil ?_
      intro w13 hb13
      have hs := hs.same hb13
      clear kx hb13 hw3 hw4 Qm
      go_wp2_with fail
      refine (poke_st (i := 4) (c := ⟨3 + u8, ⟨#[]⟩, 0⟩) hs).mono ?_
      clear hs
      rintro e w14 ⟨rfl, hs⟩
      obtain ⟨L2, hL2⟩ : ∃ L2, L2 = putC (putC L1 (d.node 2 0) ⟨ltLock 40, ⟨#[]⟩, 0⟩) 4 ⟨3 + u8, ⟨#[]⟩, 0⟩ := ⟨_, rfl⟩
      rw [← hL2] at hs Hok
      clear hL2
      have kx := hs.b1.k0
      unfold xbL at kx
      have kp := hs.b3.k0
      have hsl := (show St (Know.of w0) w14 (rowC (.slice ao sl.length co) 70 2 sl.length (slRow sl) :: _) from hs.b2).row_slots (by omega)
      have Qf := Lib.hid (refFind_any (pg := ⟨lv, sl, hi, last, ri⟩) (cap := co) (key := key2) w14 hsl)
      clear hsl
      go_wp2_with fail
      refine (calls_same hs Qf.out).mono ?_
      clear Qf kx kp hs
      rintro e w15 ⟨rfl, hs⟩
      obtain ⟨ok, hok⟩ : ∃ ok : Bool, ok = sl.any fun s => s.k.toList == key2.toList := ⟨_, rfl⟩
      rw [← hok] at Hok
      have hok2 : ((⟨lv, sl, hi, last, ri⟩ : Pg).sl.any fun s => s.k.toList == key2.toList) = ok := hok.symm
      rw [hok2]
      clear hok hok2
      generalize loK (⟨lv, sl, hi, last, ri⟩ : Pg).sl key2 = lo
      have hs2 := hs.b5.setRow (xbL d d (.pointer (some ⟨bm, 0, none⟩)) ⟨2, ltLock 40, ⟨lv, sl, hi, last, ri⟩⟩ (.slice ao sl.length co) key2).toArray
      have Hs2 := Lib.hid hs2
      clear hs2
      go_wp2_with (first | (refine wpList_load_row rfl 35 _ rfl b1 rfl 35 (xbL d d (.pointer (some ⟨bm, 0, none⟩)) ⟨2, ltLock 40, ⟨lv, sl, hi, last, ri⟩⟩ (.slice ao sl.length co) key2).toArray (0, 0) _ hs.b1.head Try.underlying35 rfl infoHeld13 ?_) | (refine wpList_store_row rfl 35 _ _ rfl b0 (xbL d d (.pointer (some ⟨bm, 0, none⟩)) ⟨2, ltLock 40, ⟨lv, sl, hi, last, ri⟩⟩ (.slice ao sl.length co) key2).toArray rfl rfl 35 _ hs.b5.head infoHeld13 (by kernel_rfl) (by kernel_rfl) ?_))
      clear hs
      refine bodyPost_ret (hold_res _ _ b0 d d (.pointer (some ⟨bm, 0, none⟩)) ⟨2, ltLock 40, ⟨lv, sl, hi, last, ri⟩⟩ (.slice ao sl.length co) key2 (.bool (!ok)) rfl rfl Hs2.out.head) rfl ⟨bm, bc, d, L2, ⟨2, ltLock 40, ⟨lv, sl, hi, last, ri⟩⟩, ao, co, key2, !ok, rfl, Hok.out, ?_⟩
      exact ((show St (Know.of w0) _ (_ :: _ :: _ :: _ :: _ :: _ :: F) from Hs2.out).re [0, 2, 4, 5, 1, 3] rfl).tail.tail.tail.tail
end
end Go.Proofs.Ytlpdhhhgckpcfaa
