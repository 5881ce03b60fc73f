/- The laws of layer 11: a step of Find in a tree; tree. awake of layer 11. -/
import Derived.Test.YtfgjanponijkhaaFindLaw
import Derived.Test.YtfgjanponijkhaaFindB
import Derived.Test.YtfgjanponijkhaaPlant
import Derived.Test.YtfgjanponijkhaaView3
namespace Go.Proofs.Ytfgjanponijkhaa
open Go.RowKit
set_option maxRecDepth 100000
section
variable {K : Know} {w : World} {F : List Comp} {b bm bc : Nat} {d : Cfg} {L : List Cel} {acc : Nat} {key : ByteArray} {level : Nat} {s : FdS} {t : List (List Nd)} {m : Nat}
/-- Find, in a world. -/
def FdOn (K : Know) (b bm bc : Nat) (d : Cfg) (L : List Cel) (key : ByteArray) (level : Nat) (F : List Comp) (s : FdS) (acc : Nat) (w : World) : Prop :=
  ∃ (x : VisB × Value × Value), St K w (fdL b (stV (fdPv b x.1 s.pc)) x.1 x.2.1 x.2.2 d key level s ++ memC bm bc L acc :: F)
theorem FdOn.start (hs : ∀ B, St K w (fdL b (stV (some (rootFV b))) B (.slice none 0 0) (.slice none 0 0) d key level fd0 ++ memC bm bc L acc :: F)) : FdOn K b bm bc d L key level F fd0 acc w :=
  ⟨(⟨0, 0, 0, 0, 0, 0⟩, .slice none 0 0, .slice none 0 0), hs _⟩
theorem findStep_inv (hd : d.Ok) (hL : CelsOk L) (ht : TreeOk d L t) (ha : acc ≤ 1000000) (h : FdInv d L t key level s m) (hpc : s.pc ≠ 2) (hs : FdOn K b bm bc d L key level F s acc w) :
    Calls Try.prog 75 #[(.pointer (some ⟨b, 0, none⟩)), (.pointer (some ⟨bm, 0, none⟩))] w fun e w' => e = .returned (.bool (decide (2 ≤ (fdStep d L key level s).pc))) ∧ 1 ≤ m ∧ FdInv d L t key level (fdStep d L key level s) (m - 1) ∧ FdOn K b bm bc d L key level F (fdStep d L key level s) (acc + 1) w' := by
  obtain ⟨h1, h2, h3, h4⟩ := h.step hd hL ht hpc
  obtain ⟨x, hs⟩ := hs
  refine (findStep_st hd hL (by omega) h3 h4 hs).mono ?_
  rintro e w' ⟨rfl, hs'⟩
  rw [show fdAcc s.pc acc = acc + 1 by unfold fdAcc; rw [if_neg hpc]] at hs'
  exact ⟨rfl, h1, h2, hs'⟩
theorem FdInv.done (h : FdInv d L t key level s m) (h2 : 2 ≤ s.pc) : s.pc = 2 ∧ FdRes t key level s := by
  rcases h with ⟨h, _⟩ | ⟨h, _⟩ | ⟨h, r⟩
  · omega
  · omega
  · exact ⟨h, r⟩
end

theorem tree_res (tmps : Array Value) (w : World) (b1 b2 : Nat) (v0 v1 v2 v3 v4 v5 v6 u0 u1 u2 u3 u4 u5 u6 x y : Value) (hp : tmps[8]? = some (.pointer (some ⟨b1, 0, none⟩))) (hq : tmps[9]? = some (.pointer (some ⟨b2, 0, none⟩))) (hx : tmps[10]? = some x) (hy : tmps[11]? = some y)
    (hk : ∀ k, w.cell? ⟨b1, k, none⟩ = (#[v0, v1, v2, v3, v4, v5, v6] : Array Value)[k]?) (hl : ∀ k, w.cell? ⟨b2, k, none⟩ = (#[u0, u1, u2, u3, u4, u5, u6] : Array Value)[k]?) :
    (results Try.f70 tmps).run Try.prog w = .ok (.tuple #[.agg #[v0, v1, v2, v3, v4, v5, v6], .agg #[u0, u1, u2, u3, u4, u5, u6], x, y]) w := by
  simp [results, Try.results70, go_sem, hp, hq, hx, hy, hk, hl]
theorem start_lat {d : Cfg} (hd : d.Ok) (id : Int) (h1 : 1 ≤ id) (h2 : id ≤ d.no) : (getC (startL d) (d.node id 0)).n = 0 := by
  have hf := hd.fa1
  have n0 := node_in hd h1 h2 (k := 0) (by omega) (by omega)
  have hA := hd.A_bd
  have m3 : 0 ≤ (id - 1) * (d.fa + 4) := Int.mul_nonneg (by omega) (by omega)
  have hl := (start_cells d hd).2.2 (d.node id 0) n0.2.1
  rw [hl]
  split
  · rfl
  · split
    · omega
    · split
      · omega
      · rfl
/-- The two results of tree that are structs: stored (4, 5) or not. -/
def TrR (K : Know) (b1 b2 : Nat) (d : Cfg) (REST : List Comp) (ρ : Nat → Option Value) (W : World) : Prop :=
  St K W (blk b1 (.cells (if (ρ 4).isSome then #[.int .i64 (d).th, .int .i64 (d).sn, .int .i64 (d).no, .int .i64 (d).ch, .int .i64 (d).re, .int .i64 (d).fa, .int .u64 (d).cl] else #[.int .i64 0, .int .i64 0, .int .i64 0, .int .i64 0, .int .i64 0, .int .i64 0, .int .u64 0]) 27) :: blk b2 (.cells (if (ρ 5).isSome then #[.int .i64 (d).th, .int .i64 (d).sn, .int .i64 (d).no, .int .i64 (d).ch, .int .i64 (d).re, .int .i64 (d).fa, .int .u64 (d).cl] else #[.int .i64 0, .int .i64 0, .int .i64 0, .int .i64 0, .int .i64 0, .int .i64 0, .int .u64 0]) 30) :: REST)
section
variable {w0 w : World} {F : List Comp} {a : Option Addr} {len cap : Nat} {f : Nat → ByteArray} {fanout sh : Int} {hide : Bool}
set_option maxHeartbeats 4000000 in
theorem tree_st (hz : StrsIn w0 a len f) (hsh : 0 ≤ sh ∧ sh < 18446744073709551616) (hs : St (Know.of w0) w F) :
    Calls Try.prog 70 #[.slice a len cap, .int .i64 fanout, .int .u64 sh, .bool hide] w fun e w' => ∃ (bm bc : Nat) (L : List Cel) (t : List (List Nd)) (ks : List ByteArray) (ka : Option Addr) (kc : Nat),
      e = .returned (.tuple #[.agg #[.int .i64 ((kitC 1 (4 + fanout % 3) 1000)).th, .int .i64 ((kitC 1 (4 + fanout % 3) 1000)).sn, .int .i64 ((kitC 1 (4 + fanout % 3) 1000)).no, .int .i64 ((kitC 1 (4 + fanout % 3) 1000)).ch, .int .i64 ((kitC 1 (4 + fanout % 3) 1000)).re, .int .i64 ((kitC 1 (4 + fanout % 3) 1000)).fa, .int .u64 ((kitC 1 (4 + fanout % 3) 1000)).cl], .agg #[.int .i64 ((kitC 1 (4 + fanout % 3) 1000)).th, .int .i64 ((kitC 1 (4 + fanout % 3) 1000)).sn, .int .i64 ((kitC 1 (4 + fanout % 3) 1000)).no, .int .i64 ((kitC 1 (4 + fanout % 3) 1000)).ch, .int .i64 ((kitC 1 (4 + fanout % 3) 1000)).re, .int .i64 ((kitC 1 (4 + fanout % 3) 1000)).fa, .int .u64 ((kitC 1 (4 + fanout % 3) 1000)).cl], (.pointer (some ⟨bm, 0, none⟩)), .slice ka ks.length kc]) ∧ Hid (TreeX (kitC 1 (4 + fanout % 3) 1000) ks hide L t ∧ KeysOk 40 ks) ∧
      St (Know.of w0) w' (memC bm bc L 0 :: rowC (.slice ka ks.length kc) 9 1 ks.length (stRow ks) :: F) := by
  obtain ⟨d, hde, hd, hno, Q1, Q2⟩ : ∃ d : Cfg, Hid (d = kitC 1 (4 + fanout % 3) 1000) ∧ Hid d.Ok ∧ Hid (100 ≤ d.no) ∧ Hid (∀ w, Calls Try.prog 17 #[.int .i64 1, .int .i64 fanout] w fun e w' => e = .returned (.agg #[.int .i64 d.th, .int .i64 d.sn, .int .i64 d.no, .int .i64 d.ch, .int .i64 d.re, .int .i64 d.fa, .int .u64 d.cl]) ∧ Below w.heap.size w w') ∧ Hid (∀ w K cs, St K w cs → Calls Try.prog 18 #[.agg #[.int .i64 d.th, .int .i64 d.sn, .int .i64 d.no, .int .i64 d.ch, .int .i64 d.re, .int .i64 d.fa, .int .u64 d.cl]] w fun e w'' => ∃ bm bc, e = .returned (.tuple #[.agg #[.int .i64 d.th, .int .i64 d.sn, .int .i64 d.no, .int .i64 d.ch, .int .i64 d.re, .int .i64 d.fa, .int .u64 d.cl], (.pointer (some ⟨bm, 0, none⟩))]) ∧ St K w'' (memC bm bc (startL d) 0 :: cs)) :=
    ⟨kitC 1 (4 + fanout % 3) 1000, Lib.hid rfl, Lib.hid (kit8_ok fanout), Lib.hid (by simp [kitC]), Lib.hid (fun w => kitConfig_any 1 fanout w), Lib.hid (fun w K cs hs => kitMemory_st (kit8_ok fanout) hs)⟩
  rw [← hde.out]
  have Hz := Lib.hid hz
  clear hz hde
  have hs := (hs.made (.cells #[.int .i64 0, .int .i64 0, .int .i64 0, .int .i64 0, .int .i64 0, .int .i64 0, .int .u64 0] 27)).made (.cells #[.int .i64 0, .int .i64 0, .int .i64 0, .int .i64 0, .int .i64 0, .int .i64 0, .int .u64 0] 30)
  simp only [World.size_alloc] at hs
  go_enter Try.func70, Try.ntmps70
  go_wp2_with fail
  refine (calls_same hs (Q1.out _)).mono ?_
  clear hs
  rintro e w1 ⟨rfl, hs⟩
  have hs := hs.made (.cells #[.int .i64 (d).th, .int .i64 (d).sn, .int .i64 (d).no, .int .i64 (d).ch, .int .i64 (d).re, .int .i64 (d).fa, .int .u64 (d).cl] 27)
  obtain ⟨b12, hb12⟩ : ∃ b, b = w1.heap.size := ⟨_, rfl⟩
  have kc := hs.k0
  go_wp2_with fail
  rw [← hb12] at hs kc ⊢
  clear hb12
  refine (Q2.out _ _ _ hs).mono ?_
  clear hs kc
  rintro e w2 ⟨bm, bc, rfl, hs⟩
  have hs := hs.made (.cells #[.int .i64 (d).th, .int .i64 (d).sn, .int .i64 (d).no, .int .i64 (d).ch, .int .i64 (d).re, .int .i64 (d).fa, .int .u64 (d).cl] 30)
  obtain ⟨b13, hb13⟩ : ∃ b, b = w2.heap.size := ⟨_, rfl⟩
  have qk := keys_st (a := a) (len := len) (cap := cap) (f := f) (most := 40) Hz.out (by omega) hs
  have QK := Lib.hid qk
  clear qk
  go_wp2_with fail
  rw [← hb13] at hs QK ⊢
  clear hb13
  refine (QK.out).mono ?_
  clear hs QK
  rintro e w3 ⟨v, ks, rfl, HK, hs⟩
  obtain ⟨ka, kc, rfl, _, _⟩ := hs.row_read
  have kc2 := hs.k1
  have kc3 := hs.tail.tail.tail.k0
  have hs : St (Know.of w0) w3 (memC bm bc (startL d) 0 :: rowC (.slice ka ks.length kc) 9 1 ks.length (stRow ks) :: blk b13 (.cells #[.int .i64 (d).th, .int .i64 (d).sn, .int .i64 (d).no, .int .i64 (d).ch, .int .i64 (d).re, .int .i64 (d).fa, .int .u64 (d).cl] 30) :: blk b12 (.cells #[.int .i64 (d).th, .int .i64 (d).sn, .int .i64 (d).no, .int .i64 (d).ch, .int .i64 (d).re, .int .i64 (d).fa, .int .u64 (d).cl] 27) :: blk (w.heap.size + 1) (.cells #[.int .i64 0, .int .i64 0, .int .i64 0, .int .i64 0, .int .i64 0, .int .i64 0, .int .u64 0] 30) :: blk w.heap.size (.cells #[.int .i64 0, .int .i64 0, .int .i64 0, .int .i64 0, .int .i64 0, .int .i64 0, .int .u64 0] 27) :: F) := hs.re [2, 0, 1, 3, 4, 5] rfl
  have qp := plant_st (hide := hide) hd.out hno.out HK.out (start_page hd.out).2.2.1 (start_page hd.out).2.2.2 (start_lat hd.out) hsh hs
  have QP := Lib.hid qp
  clear qp
  go_wp2_with fail
  refine (QP.out).mono ?_
  clear hs QP kc2 kc3
  rintro e w4 ⟨t, L', rfl, HT, hs⟩
  have k12 := hs.tail.tail.tail.k0
  have k13 := hs.k2
  have hs := hs.re [5, 4, 0, 1, 2, 3] rfl
  go_upto_region 7 with (fail)
  have Hs := Lib.hid hs
  clear hs
  refine region_effects [false, false, false, false, true, true, false, false] [4, 5] (fun _ => [])
    (TrR (Know.of w0) w.heap.size (w.heap.size + 1) d (memC bm bc L' 0 :: rowC (.slice ka ks.length kc) 9 1 ks.length (stRow ks) :: blk b13 (.cells #[.int .i64 (d).th, .int .i64 (d).sn, .int .i64 (d).no, .int .i64 (d).ch, .int .i64 (d).re, .int .i64 (d).fa, .int .u64 (d).cl] 30) :: blk b12 (.cells #[.int .i64 (d).th, .int .i64 (d).sn, .int .i64 (d).no, .int .i64 (d).ch, .int .i64 (d).re, .int .i64 (d).fa, .int .u64 (d).cl] 27) :: F))
    (fun W => St (Know.of w0) W (memC bm bc L' 0 :: rowC (.slice ka ks.length kc) 9 1 ks.length (stRow ks) :: blk b13 (.cells #[.int .i64 (d).th, .int .i64 (d).sn, .int .i64 (d).no, .int .i64 (d).ch, .int .i64 (d).re, .int .i64 (d).fa, .int .u64 (d).cl] 30) :: blk b12 (.cells #[.int .i64 (d).th, .int .i64 (d).sn, .int .i64 (d).no, .int .i64 (d).ch, .int .i64 (d).re, .int .i64 (d).fa, .int .u64 (d).cl] 27) :: F)) ?aS (by kernel_rfl) ?hB ?H ?haS ?h0 ?hI ?hR ?hE ?hQ
  case hB => as_aux_lemma => kernel_rfl
  case H =>
    intro W2 hs
    have c13 := hs.k2
    have c12 := hs.tail.tail.tail.k0
    clear hs
    simp only [withM]
    repeat (go_big_quiet_step (fail))
    refine wpQuiet_nil ?_
    rfl
  case haS => rfl
  case h0 => exact Hs.out
  case hI => exact fun ρ W2 h => St.tail (St.tail h)
  case hR => exact fun ρ W2 W3 h hb => St.same h hb
  case hE =>
    refine ⟨?e4, ?e5, trivial⟩
    case e4 =>
      intro o ho ρ W2 h hcl h4 hd2 af haf
      obtain rfl := Option.some.inj ho
      replace haf : af = fillD _ ρ [] _ := haf
      simp only [fillD] at haf
      subst haf
      unfold TrR at h
      rw [h4] at h
      obtain ⟨y, hy⟩ : ∃ y : Array Value, y = (if (ρ 5).isSome = true then #[.int .i64 (d).th, .int .i64 (d).sn, .int .i64 (d).no, .int .i64 (d).ch, .int .i64 (d).re, .int .i64 (d).fa, .int .u64 (d).cl] else #[.int .i64 0, .int .i64 0, .int .i64 0, .int .i64 0, .int .i64 0, .int .i64 0, .int .u64 0]) := ⟨_, rfl⟩
      rw [← hy] at h
      have HY := Lib.hid hy
      clear hy
      have hs : St (Know.of w0) W2 (blk w.heap.size (.cells #[.int .i64 0, .int .i64 0, .int .i64 0, .int .i64 0, .int .i64 0, .int .i64 0, .int .u64 0] 27) :: blk (w.heap.size + 1) (.cells y 30) :: memC bm bc L' 0 :: rowC (.slice ka ks.length kc) 9 1 ks.length (stRow ks) :: blk b13 (.cells #[.int .i64 (d).th, .int .i64 (d).sn, .int .i64 (d).no, .int .i64 (d).ch, .int .i64 (d).re, .int .i64 (d).fa, .int .u64 (d).cl] 30) :: blk b12 (.cells #[.int .i64 (d).th, .int .i64 (d).sn, .int .i64 (d).no, .int .i64 (d).ch, .int .i64 (d).re, .int .i64 (d).fa, .int .u64 (d).cl] 27) :: F) := h
      have k0 := hs.k0
      have f0 := hs.f0
      have hs := ((((((hs.setL 0 (.int .i64 d.th)).setL 1 (.int .i64 d.sn)).setL 2 (.int .i64 d.no)).setL 3 (.int .i64 d.ch)).setL 4 (.int .i64 d.re)).setL 5 (.int .i64 d.fa)).setL 6 (.int .u64 d.cl)
      have Hs3 := Lib.hid hs
      clear h hs hcl hd2
      go_wp2
      refine ⟨rfl, undef, rfl, ?_⟩
      unfold TrR
      rw [show upd ρ 4 undef 4 = some undef by simp [upd], show upd ρ 4 undef 5 = ρ 5 by simp [upd], ← HY.out]
      exact Hs3.out
    case e5 =>
      intro o ho ρ W2 h hcl h5 hd2 af haf
      obtain rfl := Option.some.inj ho
      replace haf : af = fillD _ ρ [] _ := haf
      simp only [fillD] at haf
      subst haf
      unfold TrR at h
      rw [h5] at h
      obtain ⟨y, hy⟩ : ∃ y : Array Value, y = (if (ρ 4).isSome = true then #[.int .i64 (d).th, .int .i64 (d).sn, .int .i64 (d).no, .int .i64 (d).ch, .int .i64 (d).re, .int .i64 (d).fa, .int .u64 (d).cl] else #[.int .i64 0, .int .i64 0, .int .i64 0, .int .i64 0, .int .i64 0, .int .i64 0, .int .u64 0]) := ⟨_, rfl⟩
      rw [← hy] at h
      have HY := Lib.hid hy
      clear hy
      have hs : St (Know.of w0) W2 (blk (w.heap.size + 1) (.cells #[.int .i64 0, .int .i64 0, .int .i64 0, .int .i64 0, .int .i64 0, .int .i64 0, .int .u64 0] 30) :: blk w.heap.size (.cells y 27) :: memC bm bc L' 0 :: rowC (.slice ka ks.length kc) 9 1 ks.length (stRow ks) :: blk b13 (.cells #[.int .i64 (d).th, .int .i64 (d).sn, .int .i64 (d).no, .int .i64 (d).ch, .int .i64 (d).re, .int .i64 (d).fa, .int .u64 (d).cl] 30) :: blk b12 (.cells #[.int .i64 (d).th, .int .i64 (d).sn, .int .i64 (d).no, .int .i64 (d).ch, .int .i64 (d).re, .int .i64 (d).fa, .int .u64 (d).cl] 27) :: F) := h.re [1, 0] rfl
      have k0 := hs.k0
      have f0 := hs.f0
      have hs := ((((((hs.setL 0 (.int .i64 d.th)).setL 1 (.int .i64 d.sn)).setL 2 (.int .i64 d.no)).setL 3 (.int .i64 d.ch)).setL 4 (.int .i64 d.re)).setL 5 (.int .i64 d.fa)).setL 6 (.int .u64 d.cl)
      have Hs3 := Lib.hid (hs.re [1, 0] rfl)
      clear h hs hcl hd2
      go_wp2
      refine ⟨rfl, undef, rfl, ?_⟩
      unfold TrR
      rw [show upd ρ 5 undef 5 = some undef by simp [upd], show upd ρ 5 undef 4 = ρ 4 by simp [upd], ← HY.out]
      exact Hs3.out
  case hQ =>
    intro ρ W2 h hall
    obtain ⟨v4, h4⟩ := Option.isSome_iff_exists.1 (hall 4 (by simp))
    obtain ⟨v5, h5⟩ := Option.isSome_iff_exists.1 (hall 5 (by simp))
    unfold TrR at h
    rw [h4, h5] at h
    have hs : St (Know.of w0) W2 (blk w.heap.size (.cells #[.int .i64 (d).th, .int .i64 (d).sn, .int .i64 (d).no, .int .i64 (d).ch, .int .i64 (d).re, .int .i64 (d).fa, .int .u64 (d).cl] 27) :: blk (w.heap.size + 1) (.cells #[.int .i64 (d).th, .int .i64 (d).sn, .int .i64 (d).no, .int .i64 (d).ch, .int .i64 (d).re, .int .i64 (d).fa, .int .u64 (d).cl] 30) :: memC bm bc L' 0 :: rowC (.slice ka ks.length kc) 9 1 ks.length (stRow ks) :: blk b13 (.cells #[.int .i64 (d).th, .int .i64 (d).sn, .int .i64 (d).no, .int .i64 (d).ch, .int .i64 (d).re, .int .i64 (d).fa, .int .u64 (d).cl] 30) :: blk b12 (.cells #[.int .i64 (d).th, .int .i64 (d).sn, .int .i64 (d).no, .int .i64 (d).ch, .int .i64 (d).re, .int .i64 (d).fa, .int .u64 (d).cl] 27) :: F) := h
    simp only [fillD, h4, h5, Option.getD_some, dstAt, List.getElem?_cons_succ, List.getElem?_cons_zero, Option.bind_some, Option.bind_none, Act.put]
    clear h hall h4 h5
    have q1 := hs.k0
    have q2 := hs.k1
    go_wp2
    refine bodyPost_ret (tree_res _ _ _ _ _ _ _ _ _ _ _ _ _ _ _ _ _ _ _ _ rfl rfl rfl rfl q1 q2) rfl ⟨bm, bc, L', t, ks, ka, kc, rfl, ⟨HT, HK⟩, ?_⟩
    exact St.tail (St.tail (St.tail (St.tail (hs.re [0, 1, 4, 5, 2, 3] rfl))))
end
end Go.Proofs.Ytfgjanponijkhaa

namespace Go.Proofs.Ytfgjanponijkhaa
open Go.RowKit
set_option maxRecDepth 100000
/-- The only node of a new memory. -/
def nd1 : Nd := ⟨1, ⟨#[]⟩, ⟨0, [], ⟨#[]⟩, true, 0⟩⟩
theorem start_tree {d : Cfg} (hd : d.Ok) : TreeOk d (startL d) [[nd1]] := by
  obtain ⟨p1, p2, _, _⟩ := start_page hd
  have h10 := (start_cells d hd).2.1
  have h0 := (start_cells d hd).2.2 0 (by omega)
  have h4 := (start_cells d hd).2.2 4 (by omega)
  rw [if_neg (by omega), if_neg (by omega), if_pos rfl] at h0
  rw [if_neg (by omega), if_pos rfl] at h4
  have hn := hd.no1
  have one : ∀ (k : Nat) (l : List Nd), ([[nd1]] : List (List Nd))[k]? = some l → k = 0 ∧ l = [nd1] := fun k l h => by
    cases k with
    | zero => simp at h; exact ⟨rfl, h.symm⟩
    | succ n => simp at h
  have two : ∀ (i : Nat) (a : Nd), ([nd1] : List Nd)[i]? = some a → i = 0 ∧ a = nd1 := fun k l h => by
    cases k with
    | zero => simp at h; exact ⟨rfl, h.symm⟩
    | succ n => simp at h
  refine ⟨by simp, fun k l h => ?_, fun k l h nd hm => ?_, ⟨nd1, rfl, by rw [h0]; rfl⟩, fun k l l' h h' => ?_, by simp, fun k l h nd hm => ?_⟩
  · obtain ⟨rfl, rfl⟩ := one k l h
    refine ⟨by simp, fun nd hm => ?_, fun nd h => ?_, fun i a b ha hb => ?_, fun i a ha _ => ?_⟩
    · simp at hm; subst hm; rfl
    · obtain ⟨_, rfl⟩ := two _ _ h; rfl
    · obtain ⟨h1, _⟩ := two _ _ hb; omega
    · obtain ⟨_, rfl⟩ := two _ _ ha; exact ⟨rfl, rfl, rfl⟩
  · obtain ⟨rfl, rfl⟩ := one k l h
    simp at hm; subst hm
    exact ⟨⟨by show (1 : Int) ≤ 1; omega, hn⟩, p1, by rw [show nd1.id = 1 from rfl, p2]; rfl, List.Pairwise.nil, fun s h => (by cases h), fun s h => (by cases h)⟩
  · obtain ⟨rfl, rfl⟩ := one k l h
    obtain ⟨h1, _⟩ := one _ _ h'; omega
  · obtain ⟨rfl, rfl⟩ := one k l h
    simp at hm; subst hm
    rw [h4]; exact Int.le_refl _
section
variable {K : Know} {w : World} {cs : List Comp}
set_option maxHeartbeats 4000000 in
theorem awake11_st (hs : St K w cs) : Calls Try.prog 71 #[] w fun e w' => e = .returned (.bool true) ∧ St K w' cs := by
  obtain ⟨d, hfa, hd, Q1, Q2⟩ : ∃ d : Cfg, d.fa = 4 ∧ Hid d.Ok ∧ Hid (∀ w, Calls Try.prog 17 #[.int .i64 1, .int .i64 0] w fun e w' => e = .returned (.agg #[.int .i64 d.th, .int .i64 d.sn, .int .i64 d.no, .int .i64 d.ch, .int .i64 d.re, .int .i64 d.fa, .int .u64 d.cl]) ∧ Below w.heap.size w w') ∧ Hid (∀ w K cs, St K w cs → Calls Try.prog 18 #[.agg #[.int .i64 d.th, .int .i64 d.sn, .int .i64 d.no, .int .i64 d.ch, .int .i64 d.re, .int .i64 d.fa, .int .u64 d.cl]] w fun e w'' => ∃ bm bc, e = .returned (.tuple #[.agg #[.int .i64 d.th, .int .i64 d.sn, .int .i64 d.no, .int .i64 d.ch, .int .i64 d.re, .int .i64 d.fa, .int .u64 d.cl], (.pointer (some ⟨bm, 0, none⟩))]) ∧ St K w'' (memC bm bc (startL d) 0 :: cs)) :=
    ⟨kitC 1 4 1000, rfl, Lib.hid (kit8_ok 0), Lib.hid (fun w => kitConfig_any 1 0 w), Lib.hid (fun w K cs hs => kitMemory_st (kit8_ok 0) hs)⟩
  have HT := Lib.hid (start_tree hd.out)
  have HL := Lib.hid (start_page hd.out).2.2.1
  have Hns : Hid (nodeSteps d = 9) := Lib.hid (by unfold nodeSteps; rw [hfa]; rfl)
  clear hfa
  generalize startL d = L0 at *
  go_enter Try.func71, Try.ntmps71
  go_wp2_with fail
  refine (calls_same hs (Q1.out _)).mono ?_
  clear hs
  rintro e w1 ⟨rfl, hs⟩
  go_wp2_with fail
  refine (Q2.out _ _ _ hs).mono ?_
  clear hs
  rintro e w2 ⟨bm, bc, rfl, hs⟩
  have hs := hs.made (.cells #[.int .i64 (d).th, .int .i64 (d).sn, .int .i64 (d).no, .int .i64 (d).ch, .int .i64 (d).re, .int .i64 (d).fa, .int .u64 (d).cl] 30)
  obtain ⟨bl, hbl⟩ : ∃ bl, bl = w2.heap.size := ⟨_, rfl⟩
  go_wp2_with fail
  rw [← hbl] at hs ⊢
  clear hbl
  refine (newFind_st (d := d) hs).mono ?_
  clear hs
  rintro e w3 ⟨b, rfl, hs⟩
  have ho : FdOn K b bm bc d L0 ⟨#[107]⟩ 0 (blk bl (.cells #[.int .i64 (d).th, .int .i64 (d).sn, .int .i64 (d).no, .int .i64 (d).ch, .int .i64 (d).re, .int .i64 (d).fa, .int .u64 (d).cl] 30) :: cs) fd0 0 w3 := FdOn.start (fun B => (hs B).re [0, 1, 3, 2] rfl)
  clear hs
  go_wp2
  go_loopw [4] (fun vk wr => ∃ (n m : Nat) (s : FdS), n + m ≤ 10 ∧ vk = .int .i64 n ∧ s.pc ≠ 2 ∧ Hid (FdInv d L0 [[nd1]] ⟨#[107]⟩ 0 s m) ∧ FdOn K b bm bc d L0 ⟨#[107]⟩ 0 (blk bl (.cells #[.int .i64 (d).th, .int .i64 (d).sn, .int .i64 (d).no, .int .i64 (d).ch, .int .i64 (d).re, .int .i64 (d).fa, .int .u64 (d).cl] 30) :: cs) s n wr) (fun v _ => 10 - (intOf v).toNat)
  case atStart => exact ⟨0, 10, fd0, by omega, rfl, by decide, Lib.hid (by have := FdInv.start (d := d) (L := L0) (t := [[nd1]]) (key := ⟨#[107]⟩) (level := 0); rw [Hns.out] at this; exact this), ho⟩
  case round =>
    clear ho
    obtain ⟨n, m, s, hnm, rfl, hpc, HI, ho⟩ := hrel
    have q := findStep_inv hd.out HL.out HT.out (by omega) HI.out hpc ho
    have hm := (HI.out.step hd.out HL.out HT.out hpc).1
    generalize fdStep d L0 ⟨#[107]⟩ 0 s = s' at q
    clear ho
    by_cases hp : 2 ≤ s'.pc
    · rw [decide_eq_true hp] at q
      have Q := Lib.hid q
      clear q
      go_wp2_with fail
      refine (Q.out).mono ?_
      clear Q
      rintro e w4 ⟨rfl, _, hI, hs⟩
      obtain ⟨h2, hr, _⟩ := hI.done hp
      obtain ⟨l, i, nd, hl, hi, hid, hpg, _⟩ := hr (by decide)
      obtain rfl : l = [nd1] := by simpa using hl.symm
      obtain ⟨rfl, rfl⟩ : i = 0 ∧ nd = nd1 := by
        cases i with
        | zero => exact ⟨rfl, by simpa using hi.symm⟩
        | succ i => simp at hi
      clear hl hi hI hr
      obtain ⟨⟨B, va, va2⟩, hs⟩ := hs
      obtain ⟨pc, id, pg, rd⟩ := s'
      simp only at h2 hid hpg
      subst h2 hid hpg
      have hs : St K w4 (fdL b .nilFunc B va va2 d ⟨#[107]⟩ (0 : Nat) ⟨2, nd1.id, nd1.pg, rd⟩ ++ (memC bm bc L0 (n + 1) :: blk bl (.cells #[.int .i64 (d).th, .int .i64 (d).sn, .int .i64 (d).no, .int .i64 (d).ch, .int .i64 (d).re, .int .i64 (d).fa, .int .u64 (d).cl] 30) :: cs)) := hs
      have q1 := findNode_st rfl (by simp [nd1]) hs
      have Q := Lib.hid q1
      clear hs q1 hp
      go_wp2_with fail
      refine (Q.out).mono ?_
      clear Q
      rintro e w5 ⟨va', rfl, hs⟩
      obtain ⟨a1, cap1, hv, _, _⟩ := hs.row_read
      subst hv
      have hs := hs.made (.cells #[.int .i64 nd1.pg.lev, .slice a1 nd1.pg.sl.length cap1, .string nd1.pg.hi, .bool true, .int .u64 nd1.pg.ri] 25)
      have hm2 := hs.tail.tail.tail.tail.mem
      go_wp2_with fail
      refine (accesses_st hm2).mono ?_
      rintro e w6 ⟨rfl, rfl⟩
      go_wp2
      go_ret
      exact ⟨by simp, hs.tail.tail.tail.tail.tail.tail⟩
    · have hp2 : s'.pc ≠ 2 := by omega
      rw [decide_eq_false hp] at q
      have Q := Lib.hid q
      clear q
      go_wp2_with fail
      refine (Q.out).mono ?_
      clear Q
      rintro e w4 ⟨rfl, _, hI, ho⟩
      have HI := Lib.hid hI
      clear hI
      go_wp2
      go_roundw
      case rel => exact ⟨n + 1, m - 1, s', by omega, by go_num, hp2, HI, ho⟩
      case measure => simp [intOf]; omega
end
end Go.Proofs.Ytfgjanponijkhaa
