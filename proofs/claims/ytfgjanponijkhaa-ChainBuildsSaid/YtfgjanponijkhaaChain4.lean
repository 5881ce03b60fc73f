/- Install, Stamp and Restore (package chain). -/
import Derived.Test.YtfgjanponijkhaaChain2
namespace Go.Proofs.Ytfgjanponijkhaa
open Go.RowKit
set_option maxRecDepth 100000

def inCells (nx : Value) (d : Cfg) (ch r : Int) (key v : ByteArray) (del : Bool) (old : Int) : List Value :=
  [nx, .bool true, .int .i64 d.th, .int .i64 d.sn, .int .i64 d.no, .int .i64 d.ch, .int .i64 d.re, .int .i64 d.fa, .int .u64 d.cl, .int .u64 ch, .int .u64 r, .string key, .string v, .bool del, .int .u64 old]
def inPv (b : Nat) : Nat → Option FV
  | 0 => some ⟨112, #[.pointer (some ⟨b, 0, none⟩)], #[]⟩
  | 1 => some ⟨157, #[.pointer (some ⟨b, 0, none⟩)], #[]⟩
  | 2 => some ⟨183, #[.pointer (some ⟨b, 0, none⟩)], #[]⟩
  | 3 => some ⟨198, #[.pointer (some ⟨b, 0, none⟩)], #[]⟩
  | _ => none
def inC (b : Nat) (d : Cfg) (ch r : Int) (key v : ByteArray) (del : Bool) (s : InS) : Comp := blk b (.cells (inCells (stV (inPv b s.pc)) d ch r key v del s.old).toArray 170)
theorem inPv_none {b p : Nat} : (inPv b p).isNone = decide (4 ≤ p) := by
  match p with
  | 0 => rfl
  | 1 => rfl
  | 2 => rfl
  | 3 => rfl
  | n + 4 => simp [inPv]
theorem enters_inLoad : Enters 112 := fun _ _ => rfl
theorem enters_inValue : Enters 157 := fun _ _ => rfl
theorem enters_inNext : Enters 183 := fun _ _ => rfl
theorem enters_inLink : Enters 198 := fun _ _ => rfl
theorem enters_single : Enters 153 := fun _ _ => rfl

section
variable {K : Know} {b : Nat} {d : Cfg} {ch r : Int} {key v : ByteArray} {del : Bool} {G : List Comp} {w : World} {nx : Value} {old : Int} {bm bc : Nat} {L : List Cel} {acc : Nat}

set_option maxHeartbeats 1000000 in
theorem inLoad_st (hd : d.Ok) (hch : 0 ≤ ch ∧ ch < 18446744073709551616) (ha : acc ≤ 1000000000000) (hs : St K w (blk b (.cells (inCells nx d ch r key v del old).toArray 170) :: memC bm bc L acc :: G)) :
    Calls Try.prog 112 #[.pointer (some ⟨b, 0, none⟩), .pointer (some ⟨bm, 0, none⟩)] w fun e w' => e = .returned (stV (inPv b 1)) ∧ St K w' (blk b (.cells (inCells nx d ch r key v del (getC L (d.chain ch)).n).toArray 170) :: memC bm bc L (acc + 1) :: G) := by
  have k := hs.k0
  unfold inCells at k
  go_enter Try.func112, Try.ntmps112
  go_upto_region 1 with (fail)
  refine region_tail_move _ 10 rfl rfl (by kernel_rfl) (by as_aux_lemma => kernel_rfl) (fun _ _ _ _ h => h) ?_
  simp only [List.take_succ_cons, List.take_zero, List.drop_succ_cons, List.drop_zero, Act.put, List.setIfInBounds_toArray, List.set_cons_zero, List.set_cons_succ, Act.eval]
  repeat (go_big_quiet_step ((go_at_call 108; exact pure_of (chain_any d hd ch hch.1 hch.2 _))))
  refine wpQuiet_nil ?_
  intro w5 hb5
  have hs := hs.same hb5
  clear k hb5
  go_wp2_with fail
  refine (load_st hs.b1 ha).mono ?_
  clear hs
  rintro e w6 ⟨rfl, hs⟩
  have hs := hs.b1
  have kf := hs.f0
  have k := hs.k0
  unfold inCells at k
  have hs := hs.setL 14 (.int .u64 (getC L (d.chain ch)).n)
  simp only [inCells, List.set_cons_zero, List.set_cons_succ] at hs
  go_wp2
  go_ret
  exact ⟨rfl, hs⟩

set_option maxHeartbeats 1000000 in
theorem inValue_st (hd : d.Ok) (hr : 0 ≤ r ∧ r < 18446744073709551616) (ha : acc ≤ 1000000000000) (hs : St K w (blk b (.cells (inCells nx d ch r key v del old).toArray 170) :: memC bm bc L acc :: G)) :
    Calls Try.prog 157 #[.pointer (some ⟨b, 0, none⟩), .pointer (some ⟨bm, 0, none⟩)] w fun e w' => e = .returned (stV (inPv b 2)) ∧ St K w' (blk b (.cells (inCells nx d ch r key v del old).toArray 170) :: memC bm bc (putC L (d.record r 1) (valC v del)) (acc + 1) :: G) := by
  have k := hs.k0
  unfold inCells at k
  have hne : b ≠ w.heap.size := Nat.ne_of_lt hs.n0
  have hk2 : ∀ (o : Obj) (k : Nat), (w.alloc o).cell? ⟨b, k, none⟩ = w.cell? ⟨b, k, none⟩ := fun o k => by rw [World.cell?_of_block (w := w) (a := ⟨b, k, none⟩)]; exact Below.heap_alloc w o b hs.n0
  cases del with
  | true =>
    have hs := hs.made (.cells #[.int .u64 0, .string ⟨#[]⟩, .int .u64 1] 41)
    go_enter Try.func157, Try.ntmps157
    go_upto_region 4 with (fail)
    refine wp_ck hs ?_
    clear hk2
    generalize w.heap.size = bx at *
    clear hs k
    intro W hs
    have k := hs.k0
    have k2 := hs.k1
    unfold inCells at k2
    refine region_tail 11 (by kernel_rfl) (by as_aux_lemma => kernel_rfl) ?_
    simp only [List.take_succ_cons, List.take_zero, List.drop_succ_cons, List.drop_zero]
    repeat (go_big_quiet_step ((go_at_call 111; exact pure_of (value_any d hd r hr.1 hr.2 _))))
    refine wpQuiet_nil ?_
    intro w5 hb5
    have hs := hs.same hb5
    clear k k2 hb5
    go_wp2_with fail
    refine (store_st (c := valC v true) hs.tail.b1 ha).mono ?_
    clear hs
    rintro e w6 ⟨rfl, hs⟩
    go_wp2
    go_ret
    exact ⟨rfl, hs.b1⟩
  | false =>
    have hs := hs.made (.cells #[.int .u64 0, .string v, .int .u64 0] 41)
    go_enter Try.func157, Try.ntmps157
    go_upto_region 4 with (fail)
    refine wp_ck hs ?_
    clear hk2
    generalize w.heap.size = bx at *
    clear hs k
    intro W hs
    have k := hs.k0
    have k2 := hs.k1
    unfold inCells at k2
    refine region_tail 11 (by kernel_rfl) (by as_aux_lemma => kernel_rfl) ?_
    simp only [List.take_succ_cons, List.take_zero, List.drop_succ_cons, List.drop_zero]
    repeat (go_big_quiet_step ((go_at_call 111; exact pure_of (value_any d hd r hr.1 hr.2 _))))
    refine wpQuiet_nil ?_
    intro w5 hb5
    have hs := hs.same hb5
    clear k k2 hb5
    go_wp2_with fail
    refine (store_st (c := valC v false) hs.tail.b1 ha).mono ?_
    clear hs
    rintro e w6 ⟨rfl, hs⟩
    go_wp2
    go_ret
    exact ⟨rfl, hs.b1⟩

set_option maxHeartbeats 1000000 in
theorem inNext_st (hd : d.Ok) (hr : 0 ≤ r ∧ r < 18446744073709551616) (ha : acc ≤ 1000000000000) (hs : St K w (blk b (.cells (inCells nx d ch r key v del old).toArray 170) :: memC bm bc L acc :: G)) :
    Calls Try.prog 183 #[.pointer (some ⟨b, 0, none⟩), .pointer (some ⟨bm, 0, none⟩)] w fun e w' => e = .returned (stV (inPv b 3)) ∧ St K w' (blk b (.cells (inCells nx d ch r key v del old).toArray 170) :: memC bm bc (putC L (d.record r 2) ⟨old, ⟨#[]⟩, 0⟩) (acc + 1) :: G) := by
  have k := hs.k0
  unfold inCells at k
  go_enter Try.func183, Try.ntmps183
  go_upto_region 1 with (fail)
  refine region_tail 15 (by kernel_rfl) (by as_aux_lemma => kernel_rfl) ?_
  simp only [List.take_succ_cons, List.take_zero, List.drop_succ_cons, List.drop_zero]
  repeat (go_big_quiet_step ((go_at_call 110; exact pure_of (next_any d hd r hr.1 hr.2 _))))
  refine wpQuiet_nil ?_
  intro w5 hb5
  have hs := hs.same hb5
  clear k hb5
  go_wp2_with fail
  refine (store_st (c := ⟨old, ⟨#[]⟩, 0⟩) hs.b1 ha).mono ?_
  clear hs
  rintro e w6 ⟨rfl, hs⟩
  go_wp2
  go_ret
  exact ⟨rfl, hs.b1⟩

set_option maxHeartbeats 1000000 in
theorem inLink_st (hd : d.Ok) (hch : 0 ≤ ch ∧ ch < 18446744073709551616) (ha : acc ≤ 1000000000000) (hs : St K w (blk b (.cells (inCells nx d ch r key v del old).toArray 170) :: memC bm bc L acc :: G)) :
    Calls Try.prog 198 #[.pointer (some ⟨b, 0, none⟩), .pointer (some ⟨bm, 0, none⟩)] w fun e w' => e = .returned (stV (inPv b 4)) ∧ St K w' (blk b (.cells (inCells nx d ch r key v del old).toArray 170) :: memC bm bc (putC L (d.chain ch) ⟨r, ⟨#[]⟩, 0⟩) (acc + 1) :: G) := by
  have k := hs.k0
  unfold inCells at k
  go_enter Try.func198, Try.ntmps198
  go_upto_region 1 with (fail)
  refine region_tail 15 (by kernel_rfl) (by as_aux_lemma => kernel_rfl) ?_
  simp only [List.take_succ_cons, List.take_zero, List.drop_succ_cons, List.drop_zero]
  repeat (go_big_quiet_step ((go_at_call 108; exact pure_of (chain_any d hd ch hch.1 hch.2 _))))
  refine wpQuiet_nil ?_
  intro w5 hb5
  have hs := hs.same hb5
  clear k hb5
  go_wp2_with fail
  refine (store_st (c := ⟨r, ⟨#[]⟩, 0⟩) hs.b1 ha).mono ?_
  clear hs
  rintro e w6 ⟨rfl, hs⟩
  go_wp2
  go_ret
  exact ⟨rfl, hs.b1⟩

theorem inRun_st {s : InS} (hd : d.Ok) (hch : 0 ≤ ch ∧ ch < 18446744073709551616) (hr : 0 ≤ r ∧ r < 18446744073709551616) (ha : acc ≤ 1000000000000) (hs : St K w (inC b d ch r key v del s :: memC bm bc L acc :: G)) :
    Calls Try.prog 103 #[.pointer (some ⟨b, 0, none⟩), .pointer (some ⟨bm, 0, none⟩)] w fun e w' => e = .returned (.bool (decide (4 ≤ (inStep d ch r (valC v del) (s, L)).1.pc))) ∧ St K w' (inC b d ch r key v del (inStep d ch r (valC v del) (s, L)).1 :: memC bm bc (inStep d ch r (valC v del) (s, L)).2 (accTo 4 s.pc acc) :: G) := by
  have k0 := hs.k0 0
  rw [show (inCells (stV (inPv b s.pc)) d ch r key v del s.old).toArray[0]? = some (stV (inPv b s.pc)) by rfl] at k0
  rw [← inPv_none (b := b)]
  obtain ⟨pc, old⟩ := s
  match pc with
  | 0 => exact runStep_to enters_inLoad k0 (inLoad_st hd hch ha hs)
  | 1 => exact runStep_to enters_inValue k0 (inValue_st hd hr ha hs)
  | 2 => exact runStep_to enters_inNext k0 (inNext_st hd hr ha hs)
  | 3 => exact runStep_to enters_inLink k0 (inLink_st hd hch ha hs)
  | n + 4 =>
    rw [accTo_yes (show 4 ≤ n + 4 by omega)]
    exact runStep_end_st hs k0
theorem inStep_st {s : InS} (hd : d.Ok) (hch : 0 ≤ ch ∧ ch < 18446744073709551616) (hr : 0 ≤ r ∧ r < 18446744073709551616) (ha : acc ≤ 1000000000000) (hs : St K w (inC b d ch r key v del s :: memC bm bc L acc :: G)) :
    Calls Try.prog 39 #[.pointer (some ⟨b, 0, none⟩), .pointer (some ⟨bm, 0, none⟩)] w fun e w' => e = .returned (.bool (decide (4 ≤ (inStep d ch r (valC v del) (s, L)).1.pc))) ∧ St K w' (inC b d ch r key v del (inStep d ch r (valC v del) (s, L)).1 :: memC bm bc (inStep d ch r (valC v del) (s, L)).2 (accTo 4 s.pc acc) :: G) := by
  have Q := Lib.hid (inRun_st hd hch hr ha hs)
  clear hs
  go_enter Try.func39, Try.ntmps39
  go_wp2_with fail
  refine (Q.out).mono ?_
  rintro e w1 ⟨rfl, hs⟩
  go_wp2
  go_ret
  exact ⟨rfl, hs⟩

theorem newInstall_st (hs : St K w G) :
    Calls Try.prog 38 #[.agg #[.int .i64 d.th, .int .i64 d.sn, .int .i64 d.no, .int .i64 d.ch, .int .i64 d.re, .int .i64 d.fa, .int .u64 d.cl], .int .u64 ch, .int .u64 r, .agg #[.string key, .string v, .bool del]] w fun e w' => ∃ b, e = .returned (.pointer (some ⟨b, 0, none⟩)) ∧ St K w' (inC b d ch r key v del ⟨0, 0⟩ :: G) := by
  have hs := hs.pass (.cells #[.int .i64 d.th, .int .i64 d.sn, .int .i64 d.no, .int .i64 d.ch, .int .i64 d.re, .int .i64 d.fa, .int .u64 d.cl] 30)
  have hs := hs.pass (.cells #[.string key, .string v, .bool del] 52)
  have hs := hs.made (.cells #[.nilFunc, .bool false, .int .i64 d.th, .int .i64 d.sn, .int .i64 d.no, .int .i64 d.ch, .int .i64 d.re, .int .i64 d.fa, .int .u64 d.cl, .int .u64 ch, .int .u64 r, .string key, .string v, .bool del, .int .u64 0] 170)
  rw [World.size_alloc, World.size_alloc] at hs
  go_enter Try.func38, Try.ntmps38
  go_wp2_with fail
  refine (calls_same hs (begin_any _ _ _ _)).mono ?_
  clear hs
  rintro e w2 ⟨rfl, hs⟩
  have k := hs.k0
  have kf := hs.f0
  have hs := (hs.setL 0 (.func (.func 112) #[.pointer (some ⟨w.heap.size + 1 + 1, 0, none⟩)] #[])).setL 1 (.bool true)
  simp only [List.set_cons_zero, List.set_cons_succ] at hs
  go_wp2
  go_ret
  exact ⟨_, rfl, hs⟩

theorem runDone_yes {cs : List Comp} (hs : St K w cs) (h0 : w.cell? ⟨b, 0, none⟩ = some .nilFunc) (h1 : w.cell? ⟨b, 1, none⟩ = some (.bool true)) : Calls Try.prog 104 #[.pointer (some ⟨b, 0, none⟩)] w fun e w' => e = .returned (.bool true) ∧ St K w' cs := by
  go_enter Try.func104, Try.ntmps104
  go_wp2
  go_ret
  exact ⟨rfl, hs⟩
theorem inOld_st {n : Nat} (hs : St K w (inC b d ch r key v del ⟨n + 4, old⟩ :: G)) :
    Calls Try.prog 42 #[.pointer (some ⟨b, 0, none⟩)] w fun e w' => e = .returned (.int .u64 old) ∧ St K w' (inC b d ch r key v del ⟨n + 4, old⟩ :: G) := by
  have k := hs.k0
  have q := runDone_yes hs (k 0) (k 1)
  have Q := Lib.hid q
  clear q hs k
  go_enter Try.func42, Try.ntmps42
  go_wp2_with fail
  refine (Q.out).mono ?_
  rintro e w1 ⟨rfl, hs⟩
  have k := hs.k0
  unfold inCells at k
  go_wp2
  go_ret
  exact ⟨rfl, hs⟩
end
end Go.Proofs.Ytfgjanponijkhaa
